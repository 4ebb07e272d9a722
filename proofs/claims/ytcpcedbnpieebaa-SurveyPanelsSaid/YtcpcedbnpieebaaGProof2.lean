/- The Go functions compute what the plain functions compute. Printed by a program. No condition. -/
import Derived.Test.YtcpcedbnpieebaaGProof1
namespace Go.KB
open Go.Proofs
set_option maxRecDepth 100000
set_option linter.unusedVariables false
theorem ok_f_exact_times (N : Nat) (x0 : (List Int)) (x1 : (List Int)) (r : (List Int)) (H : f_exact_times N x0 x1 = some r) : FnOk Try.prog 147 [fV (Rep.slice r_u16) x0, fV (Rep.slice r_u16) x1] (fV (Rep.slice r_u16) r) := by
  unfold f_exact_times at H
  refine fn_enter Try.func147 rfl rfl (by kernel_rfl) ?_
  intro κ B h0 F a w hAt
  refine wp_seq ?_
  refine reg [⟨fV (Rep.slice r_u16) [], [(4, some (tipE 103 r_u16.sz))], [], []⟩] [0, 1] [] hAt
      ⟨ok_nilTip rfl (.inl rfl), trivial⟩ (by kernel_rfl) ?_
  clear hAt
  intro a w hAt
  replace hAt : At B h0 (mkG [(0, fV (Rep.slice r_u16) x0), (1, fV (Rep.slice r_u16) x1)]) (mkO []) F 67 a w := hAt
  refine then_n ?_
  refine wp_seq ?_
  obtain ⟨v1, hv1, H⟩ := bindE H
  refine reg [⟨fV (Rep.slice r_u16) x0, [], [(0, none)], []⟩,
      ⟨fV r_i64 (List.length x0 : Int), [], [(11, some 0)], []⟩,
      ⟨fV (Rep.slice r_u16) x1, [], [(1, none)], []⟩,
      ⟨fV r_i64 (List.length x1 : Int), [], [(13, some 2)], []⟩,
      ⟨fV r_i64 (IntKind.i64.wrap ((List.length x0 : Int) + (List.length x1 : Int))), [], [(12, some 1), (14, some 3)], []⟩,
      ⟨Fact.triv, [(16, some (arrE 103 r_u16 v1))], [(15, some 4)], []⟩,
      ⟨Fact.triv, [(16, none), (5, some (arrE 103 r_u16 v1))], [], [(16, some 5)]⟩] [0, 1] [5] hAt
      ⟨ok_move rfl opd0,
      ok_len un45 rfl opd0,
      ok_move rfl opd0,
      ok_len un45 rfl opd0,
      ok_add rfl opd0 opd1,
      ok_makeArr hv1 el103 ty103 un45 rfl rfl opd0 opd0,
      (ok_moveOwn (f := Fact.triv) rfl rfl (.inr rfl) (fun _ _ _ => trivial)), trivial⟩ (by kernel_rfl) ?_
  clear hAt
  intro a w hAt
  replace hAt : At B h0 (mkG [(0, fV (Rep.slice r_u16) x0), (1, fV (Rep.slice r_u16) x1)]) (mkO [(5, arrE 103 r_u16 v1)]) F 67 a w := hAt
  refine then_n ?_
  refine wp_seq ?_
  refine wp_seq ?_
  refine reg [⟨fV (Rep.slice r_u16) x0, [], [(0, none)], []⟩,
      ⟨fV r_i64 (List.length x0 : Int), [], [(17, some 0)], []⟩,
      ⟨fV r_i64 0, [], [], []⟩] [1, 17, 18, 19] [5] hAt
      ⟨ok_move rfl opd0,
      ok_len un45 rfl opd0,
      ok_move rfl opdI, trivial⟩ (by kernel_rfl) ?_
  clear hAt
  intro a w hAt
  replace hAt : At B h0 (mkG [(1, fV (Rep.slice r_u16) x1), (17, fV (Rep.slice r_u16) x0), (18, fV r_i64 (List.length x0 : Int)), (19, fV r_i64 0)]) (mkO [(5, arrE 103 r_u16 v1)]) F 67 a w := hAt
  refine then_n ?_
  refine wp_block ?_
  obtain ⟨o15, hl16, H⟩ := bindE H
  refine wp_mono (wp_loopN (f := f_exact_times_L2 N x0 x1) (fun (s2 : ((List Int) × Int)) a w => At B h0 (mkG [(1, fV (Rep.slice r_u16) x1), (17, fV (Rep.slice r_u16) x0), (18, fV r_i64 (List.length x0 : Int)), (19, fV r_i64 s2.2)]) (mkO [(5, arrE 103 r_u16 s2.1)]) F 67 a w) (fun o e a w => (fun v => e = .exit 0 ∧ At B h0 (mkG []) (mkO [(5, arrE 103 r_u16 v)]) F 67 a w) o) ?_ N (v1, 0) o15 _ _ hl16 ?_) ?_
  · clear H hAt hl16
    intro s2 r18 a w H hAt
    unfold f_exact_times_L2 at H
    refine wp_seq ?_
    refine reg [⟨fV Rep.bool (cmpI .lss s2.2 (List.length x0 : Int)), [], [(19, none), (18, none)], []⟩] [1, 17, 18, 19, 20] [5] hAt
        ⟨ok_cmp (op := .lss) (by simp) rfl rfl opd0 opd1, trivial⟩ (by kernel_rfl) ?_
    clear hAt
    intro a w hAt
    replace hAt : At B h0 (mkG [(1, fV (Rep.slice r_u16) x1), (17, fV (Rep.slice r_u16) x0), (18, fV r_i64 (List.length x0 : Int)), (19, fV r_i64 s2.2), (20, fV Rep.bool (cmpI .lss s2.2 (List.length x0 : Int)))]) (mkO [(5, arrE 103 r_u16 s2.1)]) F 67 a w := hAt
    refine then_n ?_
    refine wp_seq ?_
    refine wp_if hAt (by rfl) ?_ ?_
    · intro hb14
      have H := iteT hb14 H
      refine wp_skip ?_
      refine then_n ?_
      refine wp_seq ?_
      refine wp_block ?_
      refine wp_seq ?_
      obtain ⟨v3, hv3, H⟩ := bindE H
      refine reg [⟨fV r_i64 s2.2, [], [(19, none)], []⟩,
          ⟨fRef r_u16 v3, [], [(17, none), (19, none)], []⟩,
          ⟨fV r_u16 v3, [], [(22, some 1)], []⟩,
          ⟨fV r_i64 s2.2, [], [(21, some 0)], []⟩,
          ⟨fV r_u16 v3, [], [(23, some 2)], []⟩] [1, 6, 7, 17, 18, 19] [5] hAt
          ⟨ok_move rfl opd0,
          ok_index ty103 un45 hv3 rfl opd0 opd1,
          ok_load ty103 rfl opd0,
          ok_assign rfl opd0,
          ok_assign rfl opd0, trivial⟩ (by kernel_rfl) ?_
      clear hAt
      intro a w hAt
      replace hAt : At B h0 (mkG [(1, fV (Rep.slice r_u16) x1), (6, fV r_i64 s2.2), (7, fV r_u16 v3), (17, fV (Rep.slice r_u16) x0), (18, fV r_i64 (List.length x0 : Int)), (19, fV r_i64 s2.2)]) (mkO [(5, arrE 103 r_u16 s2.1)]) F 67 a w := hAt
      refine then_n ?_
      refine wp_seq ?_
      refine reg [⟨fV r_u32 0, [], [], []⟩] [1, 6, 7, 8, 17, 18, 19] [5] hAt
          ⟨ok_assign rfl opdI, trivial⟩ (by kernel_rfl) ?_
      clear hAt
      intro a w hAt
      replace hAt : At B h0 (mkG [(1, fV (Rep.slice r_u16) x1), (6, fV r_i64 s2.2), (7, fV r_u16 v3), (8, fV r_u32 0), (17, fV (Rep.slice r_u16) x0), (18, fV r_i64 (List.length x0 : Int)), (19, fV r_i64 s2.2)]) (mkO [(5, arrE 103 r_u16 s2.1)]) F 67 a w := hAt
      refine then_n ?_
      refine wp_seq ?_
      refine wp_seq ?_
      refine reg [⟨fV (Rep.slice r_u16) x1, [], [(1, none)], []⟩,
          ⟨fV r_i64 (List.length x1 : Int), [], [(24, some 0)], []⟩,
          ⟨fV r_i64 0, [], [], []⟩] [1, 6, 7, 8, 17, 18, 19, 24, 25, 26] [5] hAt
          ⟨ok_move rfl opd0,
          ok_len un45 rfl opd0,
          ok_move rfl opdI, trivial⟩ (by kernel_rfl) ?_
      clear hAt
      intro a w hAt
      replace hAt : At B h0 (mkG [(1, fV (Rep.slice r_u16) x1), (6, fV r_i64 s2.2), (7, fV r_u16 v3), (8, fV r_u32 0), (17, fV (Rep.slice r_u16) x0), (18, fV r_i64 (List.length x0 : Int)), (19, fV r_i64 s2.2), (24, fV (Rep.slice r_u16) x1), (25, fV r_i64 (List.length x1 : Int)), (26, fV r_i64 0)]) (mkO [(5, arrE 103 r_u16 s2.1)]) F 67 a w := hAt
      refine then_n ?_
      refine wp_block ?_
      obtain ⟨o10, hl11, H⟩ := bindE H
      refine wp_mono (wp_loopN (f := f_exact_times_L1 N x1 s2 v3) (fun (s4 : ((List Int) × Int × Int)) a w => At B h0 (mkG [(1, fV (Rep.slice r_u16) x1), (6, fV r_i64 s2.2), (7, fV r_u16 v3), (8, fV r_u32 s4.2.1), (17, fV (Rep.slice r_u16) x0), (18, fV r_i64 (List.length x0 : Int)), (19, fV r_i64 s2.2), (24, fV (Rep.slice r_u16) x1), (25, fV r_i64 (List.length x1 : Int)), (26, fV r_i64 s4.2.2)]) (mkO [(5, arrE 103 r_u16 s4.1)]) F 67 a w) (fun o e a w => (fun v => e = .exit 2 ∧ At B h0 (mkG [(1, fV (Rep.slice r_u16) x1), (6, fV r_i64 s2.2), (8, fV r_u32 v.2), (17, fV (Rep.slice r_u16) x0), (18, fV r_i64 (List.length x0 : Int)), (19, fV r_i64 s2.2)]) (mkO [(5, arrE 103 r_u16 v.1)]) F 67 a w) o) ?_ N (s2.1, 0, 0) o10 _ _ hl11 ?_) ?_
      · clear H hAt hl11
        intro s4 r13 a w H hAt
        unfold f_exact_times_L1 at H
        refine wp_seq ?_
        refine reg [⟨fV Rep.bool (cmpI .lss s4.2.2 (List.length x1 : Int)), [], [(26, none), (25, none)], []⟩] [1, 6, 7, 8, 17, 18, 19, 24, 25, 26, 27] [5] hAt
            ⟨ok_cmp (op := .lss) (by simp) rfl rfl opd0 opd1, trivial⟩ (by kernel_rfl) ?_
        clear hAt
        intro a w hAt
        replace hAt : At B h0 (mkG [(1, fV (Rep.slice r_u16) x1), (6, fV r_i64 s2.2), (7, fV r_u16 v3), (8, fV r_u32 s4.2.1), (17, fV (Rep.slice r_u16) x0), (18, fV r_i64 (List.length x0 : Int)), (19, fV r_i64 s2.2), (24, fV (Rep.slice r_u16) x1), (25, fV r_i64 (List.length x1 : Int)), (26, fV r_i64 s4.2.2), (27, fV Rep.bool (cmpI .lss s4.2.2 (List.length x1 : Int)))]) (mkO [(5, arrE 103 r_u16 s4.1)]) F 67 a w := hAt
        refine then_n ?_
        refine wp_seq ?_
        refine wp_if hAt (by rfl) ?_ ?_
        · intro hb9
          have H := iteT hb9 H
          refine wp_skip ?_
          refine then_n ?_
          refine wp_seq ?_
          refine wp_block ?_
          refine wp_seq ?_
          obtain ⟨v5, hv5, H⟩ := bindE H
          refine reg [⟨fV r_i64 s4.2.2, [], [(26, none)], []⟩,
              ⟨fRef r_u16 v5, [], [(24, none), (26, none)], []⟩,
              ⟨fV r_u16 v5, [], [(29, some 1)], []⟩,
              ⟨fV r_i64 s4.2.2, [], [(28, some 0)], []⟩,
              ⟨fV r_u16 v5, [], [(30, some 2)], []⟩] [1, 6, 7, 8, 9, 10, 17, 18, 19, 24, 25, 26] [5] hAt
              ⟨ok_move rfl opd0,
              ok_index ty103 un45 hv5 rfl opd0 opd1,
              ok_load ty103 rfl opd0,
              ok_assign rfl opd0,
              ok_assign rfl opd0, trivial⟩ (by kernel_rfl) ?_
          clear hAt
          intro a w hAt
          replace hAt : At B h0 (mkG [(1, fV (Rep.slice r_u16) x1), (6, fV r_i64 s2.2), (7, fV r_u16 v3), (8, fV r_u32 s4.2.1), (9, fV r_i64 s4.2.2), (10, fV r_u16 v5), (17, fV (Rep.slice r_u16) x0), (18, fV r_i64 (List.length x0 : Int)), (19, fV r_i64 s2.2), (24, fV (Rep.slice r_u16) x1), (25, fV r_i64 (List.length x1 : Int)), (26, fV r_i64 s4.2.2)]) (mkO [(5, arrE 103 r_u16 s4.1)]) F 67 a w := hAt
          refine then_n ?_
          refine wp_seq ?_
          obtain ⟨v6, hv6, H⟩ := bindE H
          refine reg [⟨fV r_u32 s4.2.1, [], [(8, none)], []⟩,
              ⟨fV r_u16 v3, [], [(7, none)], []⟩,
              ⟨fV r_u32 (IntKind.u32.wrap v3), [], [(32, some 1)], []⟩,
              ⟨fV r_u16 v5, [], [(10, none)], []⟩,
              ⟨fV r_u32 (IntKind.u32.wrap v5), [], [(34, some 3)], []⟩,
              ⟨fV r_u32 (IntKind.u32.wrap ((IntKind.u32.wrap v3) * (IntKind.u32.wrap v5))), [], [(33, some 2), (35, some 4)], []⟩,
              ⟨fCp 5, [], [], []⟩,
              ⟨fV r_i64 s2.2, [], [(6, none)], []⟩,
              ⟨fV r_i64 s4.2.2, [], [(9, none)], []⟩,
              ⟨fV r_i64 (IntKind.i64.wrap (s2.2 + s4.2.2)), [], [(38, some 7), (39, some 8)], []⟩,
              ⟨fEl 5 ((Int.toNat (IntKind.i64.wrap (s2.2 + s4.2.2))) * r_u16.sz + 0), [], [(37, some 6), (40, some 9)], [(5, none)]⟩,
              ⟨fV r_u16 v6, [], [(41, some 10)], [(5, none)]⟩,
              ⟨fV r_u32 (IntKind.u32.wrap v6), [], [(42, some 11)], []⟩,
              ⟨fV r_u32 (IntKind.u32.wrap ((IntKind.u32.wrap ((IntKind.u32.wrap v3) * (IntKind.u32.wrap v5))) + (IntKind.u32.wrap v6))), [], [(36, some 5), (43, some 12)], []⟩,
              ⟨fV r_u32 (IntKind.u32.wrap (s4.2.1 + (IntKind.u32.wrap ((IntKind.u32.wrap ((IntKind.u32.wrap v3) * (IntKind.u32.wrap v5))) + (IntKind.u32.wrap v6))))), [], [(31, some 0), (44, some 13)], []⟩,
              ⟨fV r_u32 (IntKind.u32.wrap (s4.2.1 + (IntKind.u32.wrap ((IntKind.u32.wrap ((IntKind.u32.wrap v3) * (IntKind.u32.wrap v5))) + (IntKind.u32.wrap v6))))), [], [(45, some 14)], []⟩] [1, 6, 7, 8, 9, 17, 18, 19, 24, 25, 26] [5] hAt
              ⟨ok_move rfl opd0,
              ok_move rfl opd0,
              ok_conv un103 un229 rfl opd0,
              ok_move rfl opd0,
              ok_conv un103 un229 rfl opd0,
              ok_mul rfl opd0 opd1,
              ok_cp rfl,
              ok_move rfl opd0,
              ok_move rfl opd0,
              ok_add rfl opd0 opd1,
              ok_elArr hv6 ty103 un45 rfl opd0 opd1,
              ok_loadArr (idx_spec hv6).2.2 (Lens.refl _) ty103 rfl opd0,
              ok_conv un103 un229 rfl opd0,
              ok_add rfl opd0 opd1,
              ok_add rfl opd0 opd1,
              ok_assign rfl opd0, trivial⟩ (by kernel_rfl) ?_
          clear hAt
          intro a w hAt
          replace hAt : At B h0 (mkG [(1, fV (Rep.slice r_u16) x1), (6, fV r_i64 s2.2), (7, fV r_u16 v3), (8, fV r_u32 (IntKind.u32.wrap (s4.2.1 + (IntKind.u32.wrap ((IntKind.u32.wrap ((IntKind.u32.wrap v3) * (IntKind.u32.wrap v5))) + (IntKind.u32.wrap v6)))))), (9, fV r_i64 s4.2.2), (17, fV (Rep.slice r_u16) x0), (18, fV r_i64 (List.length x0 : Int)), (19, fV r_i64 s2.2), (24, fV (Rep.slice r_u16) x1), (25, fV r_i64 (List.length x1 : Int)), (26, fV r_i64 s4.2.2)]) (mkO [(5, arrE 103 r_u16 s4.1)]) F 67 a w := hAt
          refine then_n ?_
          refine wp_seq ?_
          obtain ⟨v7, hv7, H⟩ := bindE H
          refine reg [⟨fCp 5, [], [], []⟩,
              ⟨fV r_i64 s2.2, [], [(6, none)], []⟩,
              ⟨fV r_i64 s4.2.2, [], [(9, none)], []⟩,
              ⟨fV r_i64 (IntKind.i64.wrap (s2.2 + s4.2.2)), [], [(47, some 1), (48, some 2)], []⟩,
              ⟨fV r_u32 (IntKind.u32.wrap (s4.2.1 + (IntKind.u32.wrap ((IntKind.u32.wrap ((IntKind.u32.wrap v3) * (IntKind.u32.wrap v5))) + (IntKind.u32.wrap v6))))), [], [(8, none)], []⟩,
              ⟨fV r_u16 (IntKind.u16.wrap (IntKind.u32.wrap (s4.2.1 + (IntKind.u32.wrap ((IntKind.u32.wrap ((IntKind.u32.wrap v3) * (IntKind.u32.wrap v5))) + (IntKind.u32.wrap v6)))))), [], [(50, some 4)], []⟩,
              ⟨fEl 5 ((Int.toNat (IntKind.i64.wrap (s2.2 + s4.2.2))) * r_u16.sz + 0), [], [(46, some 0), (49, some 3)], [(5, none)]⟩,
              ⟨Fact.triv, [(5, some (arrE 103 r_u16 (List.set s4.1 (Int.toNat (IntKind.i64.wrap (s2.2 + s4.2.2))) (IntKind.u16.wrap (IntKind.u32.wrap (s4.2.1 + (IntKind.u32.wrap ((IntKind.u32.wrap ((IntKind.u32.wrap v3) * (IntKind.u32.wrap v5))) + (IntKind.u32.wrap v6)))))))))], [(52, some 6), (51, some 5)], [(5, none)]⟩] [1, 6, 7, 8, 17, 18, 19, 24, 25, 26] [5] hAt
              ⟨ok_cp rfl,
              ok_move rfl opd0,
              ok_move rfl opd0,
              ok_add rfl opd0 opd1,
              ok_move rfl opd0,
              ok_conv un229 un103 rfl opd0,
              ok_elArr hv7 ty103 un45 rfl opd0 opd1,
              ok_storeArr (idx_spec hv7).2.2 (Lens.refl _) ty103 rfl rfl opd0 opd1 rfl, trivial⟩ (by kernel_rfl) ?_
          clear hAt
          intro a w hAt
          replace hAt : At B h0 (mkG [(1, fV (Rep.slice r_u16) x1), (6, fV r_i64 s2.2), (7, fV r_u16 v3), (8, fV r_u32 (IntKind.u32.wrap (s4.2.1 + (IntKind.u32.wrap ((IntKind.u32.wrap ((IntKind.u32.wrap v3) * (IntKind.u32.wrap v5))) + (IntKind.u32.wrap v6)))))), (17, fV (Rep.slice r_u16) x0), (18, fV r_i64 (List.length x0 : Int)), (19, fV r_i64 s2.2), (24, fV (Rep.slice r_u16) x1), (25, fV r_i64 (List.length x1 : Int)), (26, fV r_i64 s4.2.2)]) (mkO [(5, arrE 103 r_u16 (List.set s4.1 (Int.toNat (IntKind.i64.wrap (s2.2 + s4.2.2))) (IntKind.u16.wrap (IntKind.u32.wrap (s4.2.1 + (IntKind.u32.wrap ((IntKind.u32.wrap ((IntKind.u32.wrap v3) * (IntKind.u32.wrap v5))) + (IntKind.u32.wrap v6))))))))]) F 67 a w := hAt
          refine then_n ?_
          obtain ⟨v8, hv8, H⟩ := bindE H
          refine reg [⟨fV r_u32 (IntKind.u32.wrap (s4.2.1 + (IntKind.u32.wrap ((IntKind.u32.wrap ((IntKind.u32.wrap v3) * (IntKind.u32.wrap v5))) + (IntKind.u32.wrap v6))))), [], [(8, none)], []⟩,
              ⟨fV r_u32 v8, [], [(53, some 0)], []⟩,
              ⟨fV r_u32 v8, [], [(54, some 1)], []⟩] [1, 6, 7, 8, 17, 18, 19, 24, 25, 26] [5] hAt
              ⟨ok_move rfl opd0,
              ok_shr hv8 rfl opd0 opdI,
              ok_assign rfl opd0, trivial⟩ (by kernel_rfl) ?_
          clear hAt
          intro a w hAt
          replace hAt : At B h0 (mkG [(1, fV (Rep.slice r_u16) x1), (6, fV r_i64 s2.2), (7, fV r_u16 v3), (8, fV r_u32 v8), (17, fV (Rep.slice r_u16) x0), (18, fV r_i64 (List.length x0 : Int)), (19, fV r_i64 s2.2), (24, fV (Rep.slice r_u16) x1), (25, fV r_i64 (List.length x1 : Int)), (26, fV r_i64 s4.2.2)]) (mkO [(5, arrE 103 r_u16 (List.set s4.1 (Int.toNat (IntKind.i64.wrap (s2.2 + s4.2.2))) (IntKind.u16.wrap (IntKind.u32.wrap (s4.2.1 + (IntKind.u32.wrap ((IntKind.u32.wrap ((IntKind.u32.wrap v3) * (IntKind.u32.wrap v5))) + (IntKind.u32.wrap v6))))))))]) F 67 a w := hAt
          refine blk_n ?_
          refine then_n ?_
          refine reg [⟨fV r_i64 (IntKind.i64.wrap (s4.2.2 + 1)), [], [(26, none)], []⟩,
              ⟨fV r_i64 (IntKind.i64.wrap (s4.2.2 + 1)), [], [(55, some 0)], []⟩] [1, 6, 7, 8, 17, 18, 19, 24, 25, 26] [5] hAt
              ⟨ok_add rfl opd0 opdI,
              ok_move rfl opd0, trivial⟩ (by kernel_rfl) ?_
          clear hAt
          intro a w hAt
          replace hAt : At B h0 (mkG [(1, fV (Rep.slice r_u16) x1), (6, fV r_i64 s2.2), (7, fV r_u16 v3), (8, fV r_u32 v8), (17, fV (Rep.slice r_u16) x0), (18, fV r_i64 (List.length x0 : Int)), (19, fV r_i64 s2.2), (24, fV (Rep.slice r_u16) x1), (25, fV r_i64 (List.length x1 : Int)), (26, fV r_i64 (IntKind.i64.wrap (s4.2.2 + 1)))]) (mkO [(5, arrE 103 r_u16 (List.set s4.1 (Int.toNat (IntKind.i64.wrap (s2.2 + s4.2.2))) (IntKind.u16.wrap (IntKind.u32.wrap (s4.2.1 + (IntKind.u32.wrap ((IntKind.u32.wrap ((IntKind.u32.wrap v3) * (IntKind.u32.wrap v5))) + (IntKind.u32.wrap v6))))))))]) F 67 a w := hAt
          cases H
          exact ⟨rfl, hAt.pick [1, 6, 7, 8, 17, 18, 19, 24, 25, 26] [5]⟩
        · intro hb9
          have H := iteF hb9 H
          refine wp_exit ?_
          refine then_x ?_
          cases H
          exact ⟨ex_ne, rfl, hAt.pick [1, 6, 8, 17, 18, 19] [5]⟩
      · exact hAt.pick [1, 6, 7, 8, 17, 18, 19, 24, 25, 26] [5]
      · clear hAt
        intro e a w hp
        obtain ⟨rfl, hAt⟩ := hp
        refine blk_eq ?_
        refine then_n ?_
        obtain ⟨v12, hv12, H⟩ := bindE H
        refine reg [⟨fCp 5, [], [], []⟩,
            ⟨fV r_i64 s2.2, [], [(6, none)], []⟩,
            ⟨fV (Rep.slice r_u16) x1, [], [(1, none)], []⟩,
            ⟨fV r_i64 (List.length x1 : Int), [], [(58, some 2)], []⟩,
            ⟨fV r_i64 (IntKind.i64.wrap (s2.2 + (List.length x1 : Int))), [], [(57, some 1), (59, some 3)], []⟩,
            ⟨fV r_u32 o10.2, [], [(8, none)], []⟩,
            ⟨fV r_u16 (IntKind.u16.wrap o10.2), [], [(61, some 5)], []⟩,
            ⟨fEl 5 ((Int.toNat (IntKind.i64.wrap (s2.2 + (List.length x1 : Int)))) * r_u16.sz + 0), [], [(56, some 0), (60, some 4)], [(5, none)]⟩,
            ⟨Fact.triv, [(5, some (arrE 103 r_u16 (List.set o10.1 (Int.toNat (IntKind.i64.wrap (s2.2 + (List.length x1 : Int)))) (IntKind.u16.wrap o10.2))))], [(63, some 7), (62, some 6)], [(5, none)]⟩] [1, 17, 18, 19] [5] hAt
            ⟨ok_cp rfl,
            ok_move rfl opd0,
            ok_move rfl opd0,
            ok_len un45 rfl opd0,
            ok_add rfl opd0 opd1,
            ok_move rfl opd0,
            ok_conv un229 un103 rfl opd0,
            ok_elArr hv12 ty103 un45 rfl opd0 opd1,
            ok_storeArr (idx_spec hv12).2.2 (Lens.refl _) ty103 rfl rfl opd0 opd1 rfl, trivial⟩ (by kernel_rfl) ?_
        clear hAt
        intro a w hAt
        replace hAt : At B h0 (mkG [(1, fV (Rep.slice r_u16) x1), (17, fV (Rep.slice r_u16) x0), (18, fV r_i64 (List.length x0 : Int)), (19, fV r_i64 s2.2)]) (mkO [(5, arrE 103 r_u16 (List.set o10.1 (Int.toNat (IntKind.i64.wrap (s2.2 + (List.length x1 : Int)))) (IntKind.u16.wrap o10.2)))]) F 67 a w := hAt
        refine blk_n ?_
        refine then_n ?_
        refine reg [⟨fV r_i64 (IntKind.i64.wrap (s2.2 + 1)), [], [(19, none)], []⟩,
            ⟨fV r_i64 (IntKind.i64.wrap (s2.2 + 1)), [], [(64, some 0)], []⟩] [1, 17, 18, 19] [5] hAt
            ⟨ok_add rfl opd0 opdI,
            ok_move rfl opd0, trivial⟩ (by kernel_rfl) ?_
        clear hAt
        intro a w hAt
        replace hAt : At B h0 (mkG [(1, fV (Rep.slice r_u16) x1), (17, fV (Rep.slice r_u16) x0), (18, fV r_i64 (List.length x0 : Int)), (19, fV r_i64 (IntKind.i64.wrap (s2.2 + 1)))]) (mkO [(5, arrE 103 r_u16 (List.set o10.1 (Int.toNat (IntKind.i64.wrap (s2.2 + (List.length x1 : Int)))) (IntKind.u16.wrap o10.2)))]) F 67 a w := hAt
        cases H
        exact ⟨rfl, hAt.pick [1, 17, 18, 19] [5]⟩
    · intro hb14
      have H := iteF hb14 H
      refine wp_exit ?_
      refine then_x ?_
      cases H
      exact ⟨ex_ne, rfl, hAt.pick [] [5]⟩
  · exact hAt.pick [1, 17, 18, 19] [5]
  · clear hAt
    intro e a w hp
    obtain ⟨rfl, hAt⟩ := hp
    refine blk_eq ?_
    refine then_n ?_
    refine wp_seq ?_
    have hAt := At.freeze 5 hAt rfl
    replace hAt := hAt.pick [5] []
    replace hAt : At B h0 (mkG [(5, fV (Rep.slice r_u16) o15)]) (mkO []) F 67 a w := hAt
    obtain ⟨v17, hv17, H⟩ := bindE H
    refine reg [⟨fV (Rep.slice r_u16) o15, [], [(5, none)], []⟩,
        ⟨fV (Rep.slice r_u16) v17, [], [(65, some 0)], []⟩,
        ⟨fV (Rep.slice r_u16) v17, [], [(66, some 1)], []⟩] [4] [] hAt
        ⟨ok_move rfl opd0,
        ok_call (ok_f_exact_trim N o15 _ hv17) Try.func143 (by kernel_rfl) (by kernel_rfl) rfl ⟨opd0, trivial⟩,
        ok_assign rfl opd0, trivial⟩ (by kernel_rfl) ?_
    clear hAt
    intro a w hAt
    replace hAt : At B h0 (mkG [(4, fV (Rep.slice r_u16) v17)]) (mkO []) F 67 a w := hAt
    refine then_n ?_
    refine wp_ret ?_
    cases H
    exact ret1 rfl (rv_tmp rfl rfl) hAt
theorem ok_f_exact_Mul (N : Nat) (x0 : GInt) (x1 : GInt) (r : GInt) (H : f_exact_Mul N x0 x1 = some r) : FnOk Try.prog 113 [fV GInt.rep x0, fV GInt.rep x1] (fV GInt.rep r) := by
  unfold f_exact_Mul at H
  refine fn_enter Try.func113 rfl rfl (by kernel_rfl) ?_
  intro κ B h0 F a w hAt
  refine wp_seq ?_
  refine reg [⟨fRef GInt.rep x0, [], [(0, none)], []⟩,
      ⟨fRef GInt.rep x1, [], [(1, none)], []⟩,
      ⟨Fact.triv, [(4, some (boxE 47 GInt.rep (⟨false, []⟩ : GInt)))], [], []⟩] [2, 3] [4] hAt
      ⟨ok_box rfl opd0,
      ok_box rfl opd0,
      ok_alloc ty47 rfl rfl, trivial⟩ (by kernel_rfl) ?_
  clear hAt
  intro a w hAt
  replace hAt : At B h0 (mkG [(2, fRef GInt.rep x0), (3, fRef GInt.rep x1)]) (mkO [(4, boxE 47 GInt.rep (⟨false, []⟩ : GInt))]) F 18 a w := hAt
  refine then_n ?_
  refine wp_seq ?_
  obtain ⟨v1, hv1, H⟩ := bindE H
  obtain ⟨v2, hv2, H⟩ := bindE H
  obtain ⟨v3, hv3, H⟩ := bindE H
  obtain ⟨v4, hv4, H⟩ := bindE H
  refine regd [⟨fRef Rep.bool x0.Neg, [], [(2, none)], []⟩,
      ⟨fV Rep.bool x0.Neg, [], [(5, some 0)], []⟩,
      ⟨fRef Rep.bool x1.Neg, [], [(3, none)], []⟩,
      ⟨fV Rep.bool x1.Neg, [], [(7, some 2)], []⟩,
      ⟨fV Rep.bool (!(x0.Neg == x1.Neg)), [], [(6, some 1), (8, some 3)], []⟩,
      ⟨fRef (Rep.slice r_u16) x0.Limbs, [], [(2, none)], []⟩,
      ⟨fV (Rep.slice r_u16) x0.Limbs, [], [(10, some 5)], []⟩,
      ⟨fV (Rep.slice r_u16) v1, [], [(11, some 6)], []⟩,
      ⟨fRef (Rep.slice r_u16) x1.Limbs, [], [(3, none)], []⟩,
      ⟨fV (Rep.slice r_u16) x1.Limbs, [], [(13, some 8)], []⟩,
      ⟨fV (Rep.slice r_u16) v2, [], [(14, some 9)], []⟩,
      ⟨fV (Rep.slice r_u16) v3, [], [(12, some 7), (15, some 10)], []⟩,
      ⟨fV GInt.rep v4, [], [(9, some 4), (16, some 11)], []⟩,
      ⟨Fact.triv, [(4, some (boxE 47 GInt.rep v4))], [(17, some 12)], [(4, none)]⟩] [0, 1, 2, 3, 4, 5, 6, 7, 8, 9, 10, 11, 12, 13] [0, 1, 2, 3, 4, 5, 6, 7, 8, 9, 10, 11, 12, 13] [] [4] hAt
      ⟨ok_field GInt.l0 fo47_0 rfl opd0,
      ok_load ty4 rfl opd0,
      ok_field GInt.l0 fo47_0 rfl opd0,
      ok_load ty4 rfl opd0,
      ok_neB un4 rfl opd0 opd1,
      ok_field GInt.l1 fo47_1 rfl opd0,
      ok_load ty45 rfl opd0,
      ok_call (ok_f_exact_trim N x0.Limbs _ hv1) Try.func143 (by kernel_rfl) (by kernel_rfl) rfl ⟨opd0, trivial⟩,
      ok_field GInt.l1 fo47_1 rfl opd0,
      ok_load ty45 rfl opd0,
      ok_call (ok_f_exact_trim N x1.Limbs _ hv2) Try.func143 (by kernel_rfl) (by kernel_rfl) rfl ⟨opd0, trivial⟩,
      ok_call (ok_f_exact_times N v1 v2 _ hv3) Try.func147 (by kernel_rfl) (by kernel_rfl) rfl ⟨opd0, ⟨opd1, trivial⟩⟩,
      ok_call (ok_f_exact_signed N (!(x0.Neg == x1.Neg)) v3 _ hv4) Try.func146 (by kernel_rfl) (by kernel_rfl) rfl ⟨opd0, ⟨opd1, trivial⟩⟩,
      ok_storeBox ty47 rfl rfl opd0, trivial⟩ (by kernel_rfl) ?_
  clear hAt
  intro a w hAt
  replace hAt : At B h0 (mkG []) (mkO [(4, boxE 47 GInt.rep v4)]) F 18 a w := hAt
  refine then_n ?_
  refine wp_ret ?_
  cases H
  exact ret1 rfl (rv_cell ty47 rfl) hAt
theorem ok_f_exact_plus (N : Nat) (x0 : (List Int)) (x1 : (List Int)) (r : (List Int)) (H : f_exact_plus N x0 x1 = some r) : FnOk Try.prog 149 [fV (Rep.slice r_u16) x0, fV (Rep.slice r_u16) x1] (fV (Rep.slice r_u16) r) := by
  unfold f_exact_plus at H
  refine fn_enter Try.func149 rfl rfl (by kernel_rfl) ?_
  intro κ B h0 F a w hAt
  refine wp_seq ?_
  refine reg [⟨fV (Rep.slice r_u16) [], [(4, some (tipE 103 r_u16.sz))], [], []⟩] [0, 1] [] hAt
      ⟨ok_nilTip rfl (.inl rfl), trivial⟩ (by kernel_rfl) ?_
  clear hAt
  intro a w hAt
  replace hAt : At B h0 (mkG [(0, fV (Rep.slice r_u16) x0), (1, fV (Rep.slice r_u16) x1)]) (mkO []) F 56 a w := hAt
  refine then_n ?_
  refine wp_seq ?_
  obtain ⟨o2, hl3, H⟩ := bindE H
  refine wp_mono (Q := (fun o e a w => (fun v => e = .normal ∧ At B h0 (mkG [(0, fV (Rep.slice r_u16) v.1), (1, fV (Rep.slice r_u16) v.2)]) (mkO []) F 56 a w) o) o2) ?_ ?_
  · clear H
    have H := hl3
    clear hl3
    refine wp_seq ?_
    refine reg [⟨fV (Rep.slice r_u16) x0, [], [(0, none)], []⟩,
        ⟨fV r_i64 (List.length x0 : Int), [], [(9, some 0)], []⟩,
        ⟨fV (Rep.slice r_u16) x1, [], [(1, none)], []⟩,
        ⟨fV r_i64 (List.length x1 : Int), [], [(11, some 2)], []⟩,
        ⟨fV Rep.bool (cmpI .lss (List.length x0 : Int) (List.length x1 : Int)), [], [(10, some 1), (12, some 3)], []⟩] [0, 1, 13] [] hAt
        ⟨ok_move rfl opd0,
        ok_len un45 rfl opd0,
        ok_move rfl opd0,
        ok_len un45 rfl opd0,
        ok_cmp (op := .lss) (by simp) rfl rfl opd0 opd1, trivial⟩ (by kernel_rfl) ?_
    clear hAt
    intro a w hAt
    replace hAt : At B h0 (mkG [(0, fV (Rep.slice r_u16) x0), (1, fV (Rep.slice r_u16) x1), (13, fV Rep.bool (cmpI .lss (List.length x0 : Int) (List.length x1 : Int)))]) (mkO []) F 56 a w := hAt
    refine then_n ?_
    refine wp_if hAt (by rfl) ?_ ?_
    · intro hb1
      have H := iteT hb1 H
      refine reg [⟨fV (Rep.slice r_u16) x1, [], [(1, none)], []⟩,
          ⟨fV (Rep.slice r_u16) x0, [], [(0, none)], []⟩,
          ⟨fV (Rep.slice r_u16) x1, [], [(14, some 0)], []⟩,
          ⟨fV (Rep.slice r_u16) x0, [], [(15, some 1)], []⟩] [0, 1] [] hAt
          ⟨ok_move rfl opd0,
          ok_move rfl opd0,
          ok_assign rfl opd0,
          ok_assign rfl opd0, trivial⟩ (by kernel_rfl) ?_
      clear hAt
      intro a w hAt
      replace hAt : At B h0 (mkG [(0, fV (Rep.slice r_u16) x1), (1, fV (Rep.slice r_u16) x0)]) (mkO []) F 56 a w := hAt
      cases H
      exact ⟨rfl, hAt.pick [0, 1] []⟩
    · intro hb1
      have H := iteF hb1 H
      refine wp_skip ?_
      cases H
      exact ⟨rfl, hAt.pick [0, 1] []⟩
  · clear hAt
    intro e a w hp
    obtain ⟨rfl, hAt⟩ := hp
    refine then_n ?_
    refine wp_seq ?_
    obtain ⟨v4, hv4, H⟩ := bindE H
    refine reg [⟨fV (Rep.slice r_u16) o2.1, [], [(0, none)], []⟩,
        ⟨fV r_i64 (List.length o2.1 : Int), [], [(16, some 0)], []⟩,
        ⟨fV r_i64 (IntKind.i64.wrap ((List.length o2.1 : Int) + 1)), [], [(17, some 1)], []⟩,
        ⟨fV (Rep.slice r_u16) v4, [(19, some (tipE 103 r_u16.sz))], [(18, some 2)], []⟩,
        ⟨fV (Rep.slice r_u16) v4, [(19, none), (5, some (tipE 103 r_u16.sz))], [(19, some 3)], [(19, some 3)]⟩] [0, 1, 5] [5] hAt
        ⟨ok_move rfl opd0,
        ok_len un45 rfl opd0,
        ok_add rfl opd0 opdI,
        ok_makeTip hv4 el103 ty103 un45 rfl rfl opdI opd0,
        ok_moveOwn rfl rfl (.inr rfl) opd0, trivial⟩ (by kernel_rfl) ?_
    clear hAt
    intro a w hAt
    replace hAt : At B h0 (mkG [(0, fV (Rep.slice r_u16) o2.1), (1, fV (Rep.slice r_u16) o2.2), (5, fV (Rep.slice r_u16) v4)]) (mkO [(5, tipE 103 r_u16.sz)]) F 56 a w := hAt
    refine then_n ?_
    refine wp_seq ?_
    refine reg [⟨fV r_u32 0, [], [], []⟩] [0, 1, 5, 6] [5] hAt
        ⟨ok_assign rfl opdI, trivial⟩ (by kernel_rfl) ?_
    clear hAt
    intro a w hAt
    replace hAt : At B h0 (mkG [(0, fV (Rep.slice r_u16) o2.1), (1, fV (Rep.slice r_u16) o2.2), (5, fV (Rep.slice r_u16) v4), (6, fV r_u32 0)]) (mkO [(5, tipE 103 r_u16.sz)]) F 56 a w := hAt
    refine then_n ?_
    refine wp_seq ?_
    refine wp_seq ?_
    refine reg [⟨fV (Rep.slice r_u16) o2.1, [], [(0, none)], []⟩,
        ⟨fV r_i64 (List.length o2.1 : Int), [], [(20, some 0)], []⟩,
        ⟨fV r_i64 0, [], [], []⟩] [1, 5, 6, 20, 21, 22] [5] hAt
        ⟨ok_move rfl opd0,
        ok_len un45 rfl opd0,
        ok_move rfl opdI, trivial⟩ (by kernel_rfl) ?_
    clear hAt
    intro a w hAt
    replace hAt : At B h0 (mkG [(1, fV (Rep.slice r_u16) o2.2), (5, fV (Rep.slice r_u16) v4), (6, fV r_u32 0), (20, fV (Rep.slice r_u16) o2.1), (21, fV r_i64 (List.length o2.1 : Int)), (22, fV r_i64 0)]) (mkO [(5, tipE 103 r_u16.sz)]) F 56 a w := hAt
    refine then_n ?_
    refine wp_block ?_
    obtain ⟨o14, hl15, H⟩ := bindE H
    refine wp_mono (wp_loopN (f := f_exact_plus_L1 N o2) (fun (s5 : ((List Int) × Int × Int)) a w => At B h0 (mkG [(1, fV (Rep.slice r_u16) o2.2), (5, fV (Rep.slice r_u16) s5.1), (6, fV r_u32 s5.2.1), (20, fV (Rep.slice r_u16) o2.1), (21, fV r_i64 (List.length o2.1 : Int)), (22, fV r_i64 s5.2.2)]) (mkO [(5, tipE 103 r_u16.sz)]) F 56 a w) (fun o e a w => (fun v => e = .exit 0 ∧ At B h0 (mkG [(5, fV (Rep.slice r_u16) v.1), (6, fV r_u32 v.2)]) (mkO [(5, tipE 103 r_u16.sz)]) F 56 a w) o) ?_ N (v4, 0, 0) o14 _ _ hl15 ?_) ?_
    · clear H hAt hl15
      intro s5 r18 a w H hAt
      unfold f_exact_plus_L1 at H
      refine wp_seq ?_
      refine reg [⟨fV Rep.bool (cmpI .lss s5.2.2 (List.length o2.1 : Int)), [], [(22, none), (21, none)], []⟩] [1, 5, 6, 20, 21, 22, 23] [5] hAt
          ⟨ok_cmp (op := .lss) (by simp) rfl rfl opd0 opd1, trivial⟩ (by kernel_rfl) ?_
      clear hAt
      intro a w hAt
      replace hAt : At B h0 (mkG [(1, fV (Rep.slice r_u16) o2.2), (5, fV (Rep.slice r_u16) s5.1), (6, fV r_u32 s5.2.1), (20, fV (Rep.slice r_u16) o2.1), (21, fV r_i64 (List.length o2.1 : Int)), (22, fV r_i64 s5.2.2), (23, fV Rep.bool (cmpI .lss s5.2.2 (List.length o2.1 : Int)))]) (mkO [(5, tipE 103 r_u16.sz)]) F 56 a w := hAt
      refine then_n ?_
      refine wp_seq ?_
      refine wp_if hAt (by rfl) ?_ ?_
      · intro hb13
        have H := iteT hb13 H
        refine wp_skip ?_
        refine then_n ?_
        refine wp_seq ?_
        refine wp_block ?_
        refine wp_seq ?_
        obtain ⟨v6, hv6, H⟩ := bindE H
        refine reg [⟨fV r_i64 s5.2.2, [], [(22, none)], []⟩,
            ⟨fRef r_u16 v6, [], [(20, none), (22, none)], []⟩,
            ⟨fV r_u16 v6, [], [(25, some 1)], []⟩,
            ⟨fV r_i64 s5.2.2, [], [(24, some 0)], []⟩,
            ⟨fV r_u16 v6, [], [(26, some 2)], []⟩] [1, 5, 6, 7, 8, 20, 21, 22] [5] hAt
            ⟨ok_move rfl opd0,
            ok_index ty103 un45 hv6 rfl opd0 opd1,
            ok_load ty103 rfl opd0,
            ok_assign rfl opd0,
            ok_assign rfl opd0, trivial⟩ (by kernel_rfl) ?_
        clear hAt
        intro a w hAt
        replace hAt : At B h0 (mkG [(1, fV (Rep.slice r_u16) o2.2), (5, fV (Rep.slice r_u16) s5.1), (6, fV r_u32 s5.2.1), (7, fV r_i64 s5.2.2), (8, fV r_u16 v6), (20, fV (Rep.slice r_u16) o2.1), (21, fV r_i64 (List.length o2.1 : Int)), (22, fV r_i64 s5.2.2)]) (mkO [(5, tipE 103 r_u16.sz)]) F 56 a w := hAt
        refine then_n ?_
        refine wp_seq ?_
        refine reg [⟨fV r_u32 s5.2.1, [], [(6, none)], []⟩,
            ⟨fV r_u16 v6, [], [(8, none)], []⟩,
            ⟨fV r_u32 (IntKind.u32.wrap v6), [], [(28, some 1)], []⟩,
            ⟨fV r_u32 (IntKind.u32.wrap (s5.2.1 + (IntKind.u32.wrap v6))), [], [(27, some 0), (29, some 2)], []⟩,
            ⟨fV r_u32 (IntKind.u32.wrap (s5.2.1 + (IntKind.u32.wrap v6))), [], [(30, some 3)], []⟩] [1, 5, 6, 7, 20, 21, 22] [5] hAt
            ⟨ok_move rfl opd0,
            ok_move rfl opd0,
            ok_conv un103 un229 rfl opd0,
            ok_add rfl opd0 opd1,
            ok_assign rfl opd0, trivial⟩ (by kernel_rfl) ?_
        clear hAt
        intro a w hAt
        replace hAt : At B h0 (mkG [(1, fV (Rep.slice r_u16) o2.2), (5, fV (Rep.slice r_u16) s5.1), (6, fV r_u32 (IntKind.u32.wrap (s5.2.1 + (IntKind.u32.wrap v6)))), (7, fV r_i64 s5.2.2), (20, fV (Rep.slice r_u16) o2.1), (21, fV r_i64 (List.length o2.1 : Int)), (22, fV r_i64 s5.2.2)]) (mkO [(5, tipE 103 r_u16.sz)]) F 56 a w := hAt
        refine then_n ?_
        refine wp_seq ?_
        obtain ⟨o9, hl10, H⟩ := bindE H
        refine wp_mono (Q := (fun o e a w => (fun v => e = .normal ∧ At B h0 (mkG [(1, fV (Rep.slice r_u16) o2.2), (5, fV (Rep.slice r_u16) s5.1), (6, fV r_u32 v), (20, fV (Rep.slice r_u16) o2.1), (21, fV r_i64 (List.length o2.1 : Int)), (22, fV r_i64 s5.2.2)]) (mkO [(5, tipE 103 r_u16.sz)]) F 56 a w) o) o9) ?_ ?_
        · clear H
          have H := hl10
          clear hl10
          refine wp_seq ?_
          refine reg [⟨fV r_i64 s5.2.2, [], [(7, none)], []⟩,
              ⟨fV (Rep.slice r_u16) o2.2, [], [(1, none)], []⟩,
              ⟨fV r_i64 (List.length o2.2 : Int), [], [(32, some 1)], []⟩,
              ⟨fV Rep.bool (cmpI .lss s5.2.2 (List.length o2.2 : Int)), [], [(31, some 0), (33, some 2)], []⟩] [1, 5, 6, 7, 20, 21, 22, 34] [5] hAt
              ⟨ok_move rfl opd0,
              ok_move rfl opd0,
              ok_len un45 rfl opd0,
              ok_cmp (op := .lss) (by simp) rfl rfl opd0 opd1, trivial⟩ (by kernel_rfl) ?_
          clear hAt
          intro a w hAt
          replace hAt : At B h0 (mkG [(1, fV (Rep.slice r_u16) o2.2), (5, fV (Rep.slice r_u16) s5.1), (6, fV r_u32 (IntKind.u32.wrap (s5.2.1 + (IntKind.u32.wrap v6)))), (7, fV r_i64 s5.2.2), (20, fV (Rep.slice r_u16) o2.1), (21, fV r_i64 (List.length o2.1 : Int)), (22, fV r_i64 s5.2.2), (34, fV Rep.bool (cmpI .lss s5.2.2 (List.length o2.2 : Int)))]) (mkO [(5, tipE 103 r_u16.sz)]) F 56 a w := hAt
          refine then_n ?_
          refine wp_if hAt (by rfl) ?_ ?_
          · intro hb8
            have H := iteT hb8 H
            obtain ⟨v7, hv7, H⟩ := bindE H
            refine reg [⟨fV r_u32 (IntKind.u32.wrap (s5.2.1 + (IntKind.u32.wrap v6))), [], [(6, none)], []⟩,
                ⟨fV (Rep.slice r_u16) o2.2, [], [(1, none)], []⟩,
                ⟨fV r_i64 s5.2.2, [], [(7, none)], []⟩,
                ⟨fRef r_u16 v7, [], [(36, some 1), (37, some 2)], []⟩,
                ⟨fV r_u16 v7, [], [(38, some 3)], []⟩,
                ⟨fV r_u32 (IntKind.u32.wrap v7), [], [(39, some 4)], []⟩,
                ⟨fV r_u32 (IntKind.u32.wrap ((IntKind.u32.wrap (s5.2.1 + (IntKind.u32.wrap v6))) + (IntKind.u32.wrap v7))), [], [(35, some 0), (40, some 5)], []⟩,
                ⟨fV r_u32 (IntKind.u32.wrap ((IntKind.u32.wrap (s5.2.1 + (IntKind.u32.wrap v6))) + (IntKind.u32.wrap v7))), [], [(41, some 6)], []⟩] [1, 5, 6, 20, 21, 22] [5] hAt
                ⟨ok_move rfl opd0,
                ok_move rfl opd0,
                ok_move rfl opd0,
                ok_index ty103 un45 hv7 rfl opd0 opd1,
                ok_load ty103 rfl opd0,
                ok_conv un103 un229 rfl opd0,
                ok_add rfl opd0 opd1,
                ok_assign rfl opd0, trivial⟩ (by kernel_rfl) ?_
            clear hAt
            intro a w hAt
            replace hAt : At B h0 (mkG [(1, fV (Rep.slice r_u16) o2.2), (5, fV (Rep.slice r_u16) s5.1), (6, fV r_u32 (IntKind.u32.wrap ((IntKind.u32.wrap (s5.2.1 + (IntKind.u32.wrap v6))) + (IntKind.u32.wrap v7)))), (20, fV (Rep.slice r_u16) o2.1), (21, fV r_i64 (List.length o2.1 : Int)), (22, fV r_i64 s5.2.2)]) (mkO [(5, tipE 103 r_u16.sz)]) F 56 a w := hAt
            cases H
            exact ⟨rfl, hAt.pick [1, 5, 6, 20, 21, 22] [5]⟩
          · intro hb8
            have H := iteF hb8 H
            refine wp_skip ?_
            cases H
            exact ⟨rfl, hAt.pick [1, 5, 6, 20, 21, 22] [5]⟩
        · clear hAt
          intro e a w hp
          obtain ⟨rfl, hAt⟩ := hp
          refine then_n ?_
          refine wp_seq ?_
          obtain ⟨v11, hv11, H⟩ := bindE H
          refine reg [⟨fV (Rep.slice r_u16) s5.1, [(5, none), (42, some (tipE 103 r_u16.sz))], [(5, none)], [(5, none)]⟩,
              ⟨fV r_u32 o9, [], [(6, none)], []⟩,
              ⟨fV r_u16 (IntKind.u16.wrap o9), [], [(43, some 1)], []⟩,
              ⟨fV (Rep.slice r_u16) [(IntKind.u16.wrap o9)], [], [(44, some 2)], []⟩,
              ⟨fV (Rep.slice r_u16) v11, [(42, none), (46, some (tipE 103 r_u16.sz))], [(42, some 0), (45, some 3)], [(42, some 0)]⟩,
              ⟨fV (Rep.slice r_u16) v11, [(46, none), (5, some (tipE 103 r_u16.sz))], [(46, some 4)], [(46, some 4)]⟩] [1, 5, 6, 20, 21, 22] [5] hAt
              ⟨ok_moveOwn rfl rfl (.inl rfl) opd0,
              ok_move rfl opd0,
              ok_conv un229 un103 rfl opd0,
              ok_buildSlice ty103 un45 rfl rfl (fillC (Lens.arr _ _ 0 (by decide)) rfl opd0 fillN),
              ok_append hv11 el103 un45 rfl rfl rfl opd0 opd1,
              ok_moveOwn rfl rfl (.inr rfl) opd0, trivial⟩ (by kernel_rfl) ?_
          clear hAt
          intro a w hAt
          replace hAt : At B h0 (mkG [(1, fV (Rep.slice r_u16) o2.2), (5, fV (Rep.slice r_u16) v11), (6, fV r_u32 o9), (20, fV (Rep.slice r_u16) o2.1), (21, fV r_i64 (List.length o2.1 : Int)), (22, fV r_i64 s5.2.2)]) (mkO [(5, tipE 103 r_u16.sz)]) F 56 a w := hAt
          refine then_n ?_
          obtain ⟨v12, hv12, H⟩ := bindE H
          refine reg [⟨fV r_u32 o9, [], [(6, none)], []⟩,
              ⟨fV r_u32 v12, [], [(47, some 0)], []⟩,
              ⟨fV r_u32 v12, [], [(48, some 1)], []⟩] [1, 5, 6, 20, 21, 22] [5] hAt
              ⟨ok_move rfl opd0,
              ok_shr hv12 rfl opd0 opdI,
              ok_assign rfl opd0, trivial⟩ (by kernel_rfl) ?_
          clear hAt
          intro a w hAt
          replace hAt : At B h0 (mkG [(1, fV (Rep.slice r_u16) o2.2), (5, fV (Rep.slice r_u16) v11), (6, fV r_u32 v12), (20, fV (Rep.slice r_u16) o2.1), (21, fV r_i64 (List.length o2.1 : Int)), (22, fV r_i64 s5.2.2)]) (mkO [(5, tipE 103 r_u16.sz)]) F 56 a w := hAt
          refine blk_n ?_
          refine then_n ?_
          refine reg [⟨fV r_i64 (IntKind.i64.wrap (s5.2.2 + 1)), [], [(22, none)], []⟩,
              ⟨fV r_i64 (IntKind.i64.wrap (s5.2.2 + 1)), [], [(49, some 0)], []⟩] [1, 5, 6, 20, 21, 22] [5] hAt
              ⟨ok_add rfl opd0 opdI,
              ok_move rfl opd0, trivial⟩ (by kernel_rfl) ?_
          clear hAt
          intro a w hAt
          replace hAt : At B h0 (mkG [(1, fV (Rep.slice r_u16) o2.2), (5, fV (Rep.slice r_u16) v11), (6, fV r_u32 v12), (20, fV (Rep.slice r_u16) o2.1), (21, fV r_i64 (List.length o2.1 : Int)), (22, fV r_i64 (IntKind.i64.wrap (s5.2.2 + 1)))]) (mkO [(5, tipE 103 r_u16.sz)]) F 56 a w := hAt
          cases H
          exact ⟨rfl, hAt.pick [1, 5, 6, 20, 21, 22] [5]⟩
      · intro hb13
        have H := iteF hb13 H
        refine wp_exit ?_
        refine then_x ?_
        cases H
        exact ⟨ex_ne, rfl, hAt.pick [5, 6] [5]⟩
    · exact hAt.pick [1, 5, 6, 20, 21, 22] [5]
    · clear hAt
      intro e a w hp
      obtain ⟨rfl, hAt⟩ := hp
      refine blk_eq ?_
      refine then_n ?_
      refine wp_seq ?_
      obtain ⟨v16, hv16, H⟩ := bindE H
      obtain ⟨v17, hv17, H⟩ := bindE H
      refine reg [⟨fV (Rep.slice r_u16) o14.1, [(5, none), (50, some (tipE 103 r_u16.sz))], [(5, none)], [(5, none)]⟩,
          ⟨fV r_u32 o14.2, [], [(6, none)], []⟩,
          ⟨fV r_u16 (IntKind.u16.wrap o14.2), [], [(51, some 1)], []⟩,
          ⟨fV (Rep.slice r_u16) [(IntKind.u16.wrap o14.2)], [], [(52, some 2)], []⟩,
          ⟨fV (Rep.slice r_u16) v16, [(50, none), (54, some (tipE 103 r_u16.sz))], [(50, some 0), (53, some 3)], [(50, some 0)]⟩,
          ⟨fV (Rep.slice r_u16) v17, [], [(54, some 4)], []⟩,
          ⟨fV (Rep.slice r_u16) v17, [], [(55, some 5)], []⟩] [4] [] hAt
          ⟨ok_moveOwn rfl rfl (.inl rfl) opd0,
          ok_move rfl opd0,
          ok_conv un229 un103 rfl opd0,
          ok_buildSlice ty103 un45 rfl rfl (fillC (Lens.arr _ _ 0 (by decide)) rfl opd0 fillN),
          ok_append hv16 el103 un45 rfl rfl rfl opd0 opd1,
          ok_call (ok_f_exact_trim N v16 _ hv17) Try.func143 (by kernel_rfl) (by kernel_rfl) rfl ⟨opd0, trivial⟩,
          ok_assign rfl opd0, trivial⟩ (by kernel_rfl) ?_
      clear hAt
      intro a w hAt
      replace hAt : At B h0 (mkG [(4, fV (Rep.slice r_u16) v17)]) (mkO []) F 56 a w := hAt
      refine then_n ?_
      refine wp_ret ?_
      cases H
      exact ret1 rfl (rv_tmp rfl rfl) hAt
theorem ok_f_exact_minus (N : Nat) (x0 : (List Int)) (x1 : (List Int)) (r : (List Int)) (H : f_exact_minus N x0 x1 = some r) : FnOk Try.prog 151 [fV (Rep.slice r_u16) x0, fV (Rep.slice r_u16) x1] (fV (Rep.slice r_u16) r) := by
  unfold f_exact_minus at H
  refine fn_enter Try.func151 rfl rfl (by kernel_rfl) ?_
  intro κ B h0 F a w hAt
  refine wp_seq ?_
  refine reg [⟨fV (Rep.slice r_u16) [], [(4, some (tipE 103 r_u16.sz))], [], []⟩] [0, 1] [] hAt
      ⟨ok_nilTip rfl (.inl rfl), trivial⟩ (by kernel_rfl) ?_
  clear hAt
  intro a w hAt
  replace hAt : At B h0 (mkG [(0, fV (Rep.slice r_u16) x0), (1, fV (Rep.slice r_u16) x1)]) (mkO []) F 50 a w := hAt
  refine then_n ?_
  refine wp_seq ?_
  obtain ⟨v1, hv1, H⟩ := bindE H
  refine reg [⟨fV (Rep.slice r_u16) x0, [], [(0, none)], []⟩,
      ⟨fV r_i64 (List.length x0 : Int), [], [(10, some 0)], []⟩,
      ⟨Fact.triv, [(12, some (arrE 103 r_u16 v1))], [(11, some 1)], []⟩,
      ⟨Fact.triv, [(12, none), (5, some (arrE 103 r_u16 v1))], [], [(12, some 2)]⟩] [0, 1] [5] hAt
      ⟨ok_move rfl opd0,
      ok_len un45 rfl opd0,
      ok_makeArr hv1 el103 ty103 un45 rfl rfl opd0 opd0,
      (ok_moveOwn (f := Fact.triv) rfl rfl (.inr rfl) (fun _ _ _ => trivial)), trivial⟩ (by kernel_rfl) ?_
  clear hAt
  intro a w hAt
  replace hAt : At B h0 (mkG [(0, fV (Rep.slice r_u16) x0), (1, fV (Rep.slice r_u16) x1)]) (mkO [(5, arrE 103 r_u16 v1)]) F 50 a w := hAt
  refine then_n ?_
  refine wp_seq ?_
  refine reg [⟨fV r_u32 0, [], [], []⟩] [0, 1, 6] [5] hAt
      ⟨ok_assign rfl opdI, trivial⟩ (by kernel_rfl) ?_
  clear hAt
  intro a w hAt
  replace hAt : At B h0 (mkG [(0, fV (Rep.slice r_u16) x0), (1, fV (Rep.slice r_u16) x1), (6, fV r_u32 0)]) (mkO [(5, arrE 103 r_u16 v1)]) F 50 a w := hAt
  refine then_n ?_
  refine wp_seq ?_
  refine wp_seq ?_
  refine reg [⟨fV (Rep.slice r_u16) x0, [], [(0, none)], []⟩,
      ⟨fV r_i64 (List.length x0 : Int), [], [(13, some 0)], []⟩,
      ⟨fV r_i64 0, [], [], []⟩] [1, 6, 13, 14, 15] [5] hAt
      ⟨ok_move rfl opd0,
      ok_len un45 rfl opd0,
      ok_move rfl opdI, trivial⟩ (by kernel_rfl) ?_
  clear hAt
  intro a w hAt
  replace hAt : At B h0 (mkG [(1, fV (Rep.slice r_u16) x1), (6, fV r_u32 0), (13, fV (Rep.slice r_u16) x0), (14, fV r_i64 (List.length x0 : Int)), (15, fV r_i64 0)]) (mkO [(5, arrE 103 r_u16 v1)]) F 50 a w := hAt
  refine then_n ?_
  refine wp_block ?_
  obtain ⟨o14, hl15, H⟩ := bindE H
  refine wp_mono (wp_loopN (f := f_exact_minus_L1 N x0 x1) (fun (s2 : ((List Int) × Int × Int)) a w => At B h0 (mkG [(1, fV (Rep.slice r_u16) x1), (6, fV r_u32 s2.2.1), (13, fV (Rep.slice r_u16) x0), (14, fV r_i64 (List.length x0 : Int)), (15, fV r_i64 s2.2.2)]) (mkO [(5, arrE 103 r_u16 s2.1)]) F 50 a w) (fun o e a w => (fun v => e = .exit 0 ∧ At B h0 (mkG []) (mkO [(5, arrE 103 r_u16 v)]) F 50 a w) o) ?_ N (v1, 0, 0) o14 _ _ hl15 ?_) ?_
  · clear H hAt hl15
    intro s2 r17 a w H hAt
    unfold f_exact_minus_L1 at H
    refine wp_seq ?_
    refine reg [⟨fV Rep.bool (cmpI .lss s2.2.2 (List.length x0 : Int)), [], [(15, none), (14, none)], []⟩] [1, 6, 13, 14, 15, 16] [5] hAt
        ⟨ok_cmp (op := .lss) (by simp) rfl rfl opd0 opd1, trivial⟩ (by kernel_rfl) ?_
    clear hAt
    intro a w hAt
    replace hAt : At B h0 (mkG [(1, fV (Rep.slice r_u16) x1), (6, fV r_u32 s2.2.1), (13, fV (Rep.slice r_u16) x0), (14, fV r_i64 (List.length x0 : Int)), (15, fV r_i64 s2.2.2), (16, fV Rep.bool (cmpI .lss s2.2.2 (List.length x0 : Int)))]) (mkO [(5, arrE 103 r_u16 s2.1)]) F 50 a w := hAt
    refine then_n ?_
    refine wp_seq ?_
    refine wp_if hAt (by rfl) ?_ ?_
    · intro hb13
      have H := iteT hb13 H
      refine wp_skip ?_
      refine then_n ?_
      refine wp_seq ?_
      refine wp_block ?_
      refine wp_seq ?_
      obtain ⟨v3, hv3, H⟩ := bindE H
      refine reg [⟨fV r_i64 s2.2.2, [], [(15, none)], []⟩,
          ⟨fRef r_u16 v3, [], [(13, none), (15, none)], []⟩,
          ⟨fV r_u16 v3, [], [(18, some 1)], []⟩,
          ⟨fV r_i64 s2.2.2, [], [(17, some 0)], []⟩,
          ⟨fV r_u16 v3, [], [(19, some 2)], []⟩] [1, 6, 7, 8, 13, 14, 15] [5] hAt
          ⟨ok_move rfl opd0,
          ok_index ty103 un45 hv3 rfl opd0 opd1,
          ok_load ty103 rfl opd0,
          ok_assign rfl opd0,
          ok_assign rfl opd0, trivial⟩ (by kernel_rfl) ?_
      clear hAt
      intro a w hAt
      replace hAt : At B h0 (mkG [(1, fV (Rep.slice r_u16) x1), (6, fV r_u32 s2.2.1), (7, fV r_i64 s2.2.2), (8, fV r_u16 v3), (13, fV (Rep.slice r_u16) x0), (14, fV r_i64 (List.length x0 : Int)), (15, fV r_i64 s2.2.2)]) (mkO [(5, arrE 103 r_u16 s2.1)]) F 50 a w := hAt
      refine then_n ?_
      refine wp_seq ?_
      refine reg [⟨fV r_u32 s2.2.1, [], [(6, none)], []⟩,
          ⟨fV r_u32 s2.2.1, [], [(20, some 0)], []⟩] [1, 7, 8, 9, 13, 14, 15] [5] hAt
          ⟨ok_move rfl opd0,
          ok_assign rfl opd0, trivial⟩ (by kernel_rfl) ?_
      clear hAt
      intro a w hAt
      replace hAt : At B h0 (mkG [(1, fV (Rep.slice r_u16) x1), (7, fV r_i64 s2.2.2), (8, fV r_u16 v3), (9, fV r_u32 s2.2.1), (13, fV (Rep.slice r_u16) x0), (14, fV r_i64 (List.length x0 : Int)), (15, fV r_i64 s2.2.2)]) (mkO [(5, arrE 103 r_u16 s2.1)]) F 50 a w := hAt
      refine then_n ?_
      refine wp_seq ?_
      obtain ⟨o6, hl7, H⟩ := bindE H
      refine wp_mono (Q := (fun o e a w => (fun v => e = .normal ∧ At B h0 (mkG [(1, fV (Rep.slice r_u16) x1), (7, fV r_i64 s2.2.2), (8, fV r_u16 v3), (9, fV r_u32 v), (13, fV (Rep.slice r_u16) x0), (14, fV r_i64 (List.length x0 : Int)), (15, fV r_i64 s2.2.2)]) (mkO [(5, arrE 103 r_u16 s2.1)]) F 50 a w) o) o6) ?_ ?_
      · clear H
        have H := hl7
        clear hl7
        refine wp_seq ?_
        refine reg [⟨fV r_i64 s2.2.2, [], [(7, none)], []⟩,
            ⟨fV (Rep.slice r_u16) x1, [], [(1, none)], []⟩,
            ⟨fV r_i64 (List.length x1 : Int), [], [(22, some 1)], []⟩,
            ⟨fV Rep.bool (cmpI .lss s2.2.2 (List.length x1 : Int)), [], [(21, some 0), (23, some 2)], []⟩] [1, 7, 8, 9, 13, 14, 15, 24] [5] hAt
            ⟨ok_move rfl opd0,
            ok_move rfl opd0,
            ok_len un45 rfl opd0,
            ok_cmp (op := .lss) (by simp) rfl rfl opd0 opd1, trivial⟩ (by kernel_rfl) ?_
        clear hAt
        intro a w hAt
        replace hAt : At B h0 (mkG [(1, fV (Rep.slice r_u16) x1), (7, fV r_i64 s2.2.2), (8, fV r_u16 v3), (9, fV r_u32 s2.2.1), (13, fV (Rep.slice r_u16) x0), (14, fV r_i64 (List.length x0 : Int)), (15, fV r_i64 s2.2.2), (24, fV Rep.bool (cmpI .lss s2.2.2 (List.length x1 : Int)))]) (mkO [(5, arrE 103 r_u16 s2.1)]) F 50 a w := hAt
        refine then_n ?_
        refine wp_if hAt (by rfl) ?_ ?_
        · intro hb5
          have H := iteT hb5 H
          obtain ⟨v4, hv4, H⟩ := bindE H
          refine reg [⟨fV r_u32 s2.2.1, [], [(9, none)], []⟩,
              ⟨fV (Rep.slice r_u16) x1, [], [(1, none)], []⟩,
              ⟨fV r_i64 s2.2.2, [], [(7, none)], []⟩,
              ⟨fRef r_u16 v4, [], [(26, some 1), (27, some 2)], []⟩,
              ⟨fV r_u16 v4, [], [(28, some 3)], []⟩,
              ⟨fV r_u32 (IntKind.u32.wrap v4), [], [(29, some 4)], []⟩,
              ⟨fV r_u32 (IntKind.u32.wrap (s2.2.1 + (IntKind.u32.wrap v4))), [], [(25, some 0), (30, some 5)], []⟩,
              ⟨fV r_u32 (IntKind.u32.wrap (s2.2.1 + (IntKind.u32.wrap v4))), [], [(31, some 6)], []⟩] [1, 7, 8, 9, 13, 14, 15] [5] hAt
              ⟨ok_move rfl opd0,
              ok_move rfl opd0,
              ok_move rfl opd0,
              ok_index ty103 un45 hv4 rfl opd0 opd1,
              ok_load ty103 rfl opd0,
              ok_conv un103 un229 rfl opd0,
              ok_add rfl opd0 opd1,
              ok_assign rfl opd0, trivial⟩ (by kernel_rfl) ?_
          clear hAt
          intro a w hAt
          replace hAt : At B h0 (mkG [(1, fV (Rep.slice r_u16) x1), (7, fV r_i64 s2.2.2), (8, fV r_u16 v3), (9, fV r_u32 (IntKind.u32.wrap (s2.2.1 + (IntKind.u32.wrap v4)))), (13, fV (Rep.slice r_u16) x0), (14, fV r_i64 (List.length x0 : Int)), (15, fV r_i64 s2.2.2)]) (mkO [(5, arrE 103 r_u16 s2.1)]) F 50 a w := hAt
          cases H
          exact ⟨rfl, hAt.pick [1, 7, 8, 9, 13, 14, 15] [5]⟩
        · intro hb5
          have H := iteF hb5 H
          refine wp_skip ?_
          cases H
          exact ⟨rfl, hAt.pick [1, 7, 8, 9, 13, 14, 15] [5]⟩
      · clear hAt
        intro e a w hp
        obtain ⟨rfl, hAt⟩ := hp
        refine then_n ?_
        refine wp_seq ?_
        refine reg [⟨fV r_u32 0, [], [], []⟩] [1, 6, 7, 8, 9, 13, 14, 15] [5] hAt
            ⟨ok_assign rfl opdI, trivial⟩ (by kernel_rfl) ?_
        clear hAt
        intro a w hAt
        replace hAt : At B h0 (mkG [(1, fV (Rep.slice r_u16) x1), (6, fV r_u32 0), (7, fV r_i64 s2.2.2), (8, fV r_u16 v3), (9, fV r_u32 o6), (13, fV (Rep.slice r_u16) x0), (14, fV r_i64 (List.length x0 : Int)), (15, fV r_i64 s2.2.2)]) (mkO [(5, arrE 103 r_u16 s2.1)]) F 50 a w := hAt
        refine then_n ?_
        refine wp_seq ?_
        refine wp_seq ?_
        refine reg [⟨fV r_u16 v3, [], [(8, none)], []⟩,
            ⟨fV r_u32 (IntKind.u32.wrap v3), [], [(32, some 0)], []⟩,
            ⟨fV r_u32 o6, [], [(9, none)], []⟩,
            ⟨fV Rep.bool (cmpI .lss (IntKind.u32.wrap v3) o6), [], [(33, some 1), (34, some 2)], []⟩] [1, 6, 7, 8, 9, 13, 14, 15, 35] [5] hAt
            ⟨ok_move rfl opd0,
            ok_conv un103 un229 rfl opd0,
            ok_move rfl opd0,
            ok_cmp (op := .lss) (by simp) rfl rfl opd0 opd1, trivial⟩ (by kernel_rfl) ?_
        clear hAt
        intro a w hAt
        replace hAt : At B h0 (mkG [(1, fV (Rep.slice r_u16) x1), (6, fV r_u32 0), (7, fV r_i64 s2.2.2), (8, fV r_u16 v3), (9, fV r_u32 o6), (13, fV (Rep.slice r_u16) x0), (14, fV r_i64 (List.length x0 : Int)), (15, fV r_i64 s2.2.2), (35, fV Rep.bool (cmpI .lss (IntKind.u32.wrap v3) o6))]) (mkO [(5, arrE 103 r_u16 s2.1)]) F 50 a w := hAt
        refine then_n ?_
        refine wp_if hAt (by rfl) ?_ ?_
        · intro hb12
          have H := iteT hb12 H
          refine reg [⟨fV r_u32 1, [], [], []⟩] [1, 6, 7, 8, 9, 13, 14, 15] [5] hAt
              ⟨ok_assign rfl opdI, trivial⟩ (by kernel_rfl) ?_
          clear hAt
          intro a w hAt
          replace hAt : At B h0 (mkG [(1, fV (Rep.slice r_u16) x1), (6, fV r_u32 1), (7, fV r_i64 s2.2.2), (8, fV r_u16 v3), (9, fV r_u32 o6), (13, fV (Rep.slice r_u16) x0), (14, fV r_i64 (List.length x0 : Int)), (15, fV r_i64 s2.2.2)]) (mkO [(5, arrE 103 r_u16 s2.1)]) F 50 a w := hAt
          refine then_n ?_
          obtain ⟨v8, hv8, H⟩ := bindE H
          obtain ⟨v9, hv9, H⟩ := bindE H
          refine reg [⟨fCp 5, [], [], []⟩,
              ⟨fV r_i64 s2.2.2, [], [(7, none)], []⟩,
              ⟨fV r_u16 v3, [], [(8, none)], []⟩,
              ⟨fV r_u32 (IntKind.u32.wrap v3), [], [(38, some 2)], []⟩,
              ⟨fV r_u32 1, [], [(6, none)], []⟩,
              ⟨fV r_u32 v8, [], [(40, some 4)], []⟩,
              ⟨fV r_u32 (IntKind.u32.wrap ((IntKind.u32.wrap v3) + v8)), [], [(39, some 3), (41, some 5)], []⟩,
              ⟨fV r_u32 o6, [], [(9, none)], []⟩,
              ⟨fV r_u32 (IntKind.u32.wrap ((IntKind.u32.wrap ((IntKind.u32.wrap v3) + v8)) - o6)), [], [(42, some 6), (43, some 7)], []⟩,
              ⟨fV r_u16 (IntKind.u16.wrap (IntKind.u32.wrap ((IntKind.u32.wrap ((IntKind.u32.wrap v3) + v8)) - o6))), [], [(44, some 8)], []⟩,
              ⟨fEl 5 ((Int.toNat s2.2.2) * r_u16.sz + 0), [], [(36, some 0), (37, some 1)], [(5, none)]⟩,
              ⟨Fact.triv, [(5, some (arrE 103 r_u16 (List.set s2.1 (Int.toNat s2.2.2) (IntKind.u16.wrap (IntKind.u32.wrap ((IntKind.u32.wrap ((IntKind.u32.wrap v3) + v8)) - o6))))))], [(46, some 10), (45, some 9)], [(5, none)]⟩] [1, 6, 13, 14, 15] [5] hAt
              ⟨ok_cp rfl,
              ok_move rfl opd0,
              ok_move rfl opd0,
              ok_conv un103 un229 rfl opd0,
              ok_move rfl opd0,
              ok_shl hv8 rfl opd0 opdI,
              ok_add rfl opd0 opd1,
              ok_move rfl opd0,
              ok_sub rfl opd0 opd1,
              ok_conv un229 un103 rfl opd0,
              ok_elArr hv9 ty103 un45 rfl opd0 opd1,
              ok_storeArr (idx_spec hv9).2.2 (Lens.refl _) ty103 rfl rfl opd0 opd1 rfl, trivial⟩ (by kernel_rfl) ?_
          clear hAt
          intro a w hAt
          replace hAt : At B h0 (mkG [(1, fV (Rep.slice r_u16) x1), (6, fV r_u32 1), (13, fV (Rep.slice r_u16) x0), (14, fV r_i64 (List.length x0 : Int)), (15, fV r_i64 s2.2.2)]) (mkO [(5, arrE 103 r_u16 (List.set s2.1 (Int.toNat s2.2.2) (IntKind.u16.wrap (IntKind.u32.wrap ((IntKind.u32.wrap ((IntKind.u32.wrap v3) + v8)) - o6)))))]) F 50 a w := hAt
          refine blk_n ?_
          refine then_n ?_
          refine reg [⟨fV r_i64 (IntKind.i64.wrap (s2.2.2 + 1)), [], [(15, none)], []⟩,
              ⟨fV r_i64 (IntKind.i64.wrap (s2.2.2 + 1)), [], [(47, some 0)], []⟩] [1, 6, 13, 14, 15] [5] hAt
              ⟨ok_add rfl opd0 opdI,
              ok_move rfl opd0, trivial⟩ (by kernel_rfl) ?_
          clear hAt
          intro a w hAt
          replace hAt : At B h0 (mkG [(1, fV (Rep.slice r_u16) x1), (6, fV r_u32 1), (13, fV (Rep.slice r_u16) x0), (14, fV r_i64 (List.length x0 : Int)), (15, fV r_i64 (IntKind.i64.wrap (s2.2.2 + 1)))]) (mkO [(5, arrE 103 r_u16 (List.set s2.1 (Int.toNat s2.2.2) (IntKind.u16.wrap (IntKind.u32.wrap ((IntKind.u32.wrap ((IntKind.u32.wrap v3) + v8)) - o6)))))]) F 50 a w := hAt
          cases H
          exact ⟨rfl, hAt.pick [1, 6, 13, 14, 15] [5]⟩
        · intro hb12
          have H := iteF hb12 H
          refine wp_skip ?_
          refine then_n ?_
          obtain ⟨v10, hv10, H⟩ := bindE H
          obtain ⟨v11, hv11, H⟩ := bindE H
          refine reg [⟨fCp 5, [], [], []⟩,
              ⟨fV r_i64 s2.2.2, [], [(7, none)], []⟩,
              ⟨fV r_u16 v3, [], [(8, none)], []⟩,
              ⟨fV r_u32 (IntKind.u32.wrap v3), [], [(38, some 2)], []⟩,
              ⟨fV r_u32 0, [], [(6, none)], []⟩,
              ⟨fV r_u32 v10, [], [(40, some 4)], []⟩,
              ⟨fV r_u32 (IntKind.u32.wrap ((IntKind.u32.wrap v3) + v10)), [], [(39, some 3), (41, some 5)], []⟩,
              ⟨fV r_u32 o6, [], [(9, none)], []⟩,
              ⟨fV r_u32 (IntKind.u32.wrap ((IntKind.u32.wrap ((IntKind.u32.wrap v3) + v10)) - o6)), [], [(42, some 6), (43, some 7)], []⟩,
              ⟨fV r_u16 (IntKind.u16.wrap (IntKind.u32.wrap ((IntKind.u32.wrap ((IntKind.u32.wrap v3) + v10)) - o6))), [], [(44, some 8)], []⟩,
              ⟨fEl 5 ((Int.toNat s2.2.2) * r_u16.sz + 0), [], [(36, some 0), (37, some 1)], [(5, none)]⟩,
              ⟨Fact.triv, [(5, some (arrE 103 r_u16 (List.set s2.1 (Int.toNat s2.2.2) (IntKind.u16.wrap (IntKind.u32.wrap ((IntKind.u32.wrap ((IntKind.u32.wrap v3) + v10)) - o6))))))], [(46, some 10), (45, some 9)], [(5, none)]⟩] [1, 6, 13, 14, 15] [5] hAt
              ⟨ok_cp rfl,
              ok_move rfl opd0,
              ok_move rfl opd0,
              ok_conv un103 un229 rfl opd0,
              ok_move rfl opd0,
              ok_shl hv10 rfl opd0 opdI,
              ok_add rfl opd0 opd1,
              ok_move rfl opd0,
              ok_sub rfl opd0 opd1,
              ok_conv un229 un103 rfl opd0,
              ok_elArr hv11 ty103 un45 rfl opd0 opd1,
              ok_storeArr (idx_spec hv11).2.2 (Lens.refl _) ty103 rfl rfl opd0 opd1 rfl, trivial⟩ (by kernel_rfl) ?_
          clear hAt
          intro a w hAt
          replace hAt : At B h0 (mkG [(1, fV (Rep.slice r_u16) x1), (6, fV r_u32 0), (13, fV (Rep.slice r_u16) x0), (14, fV r_i64 (List.length x0 : Int)), (15, fV r_i64 s2.2.2)]) (mkO [(5, arrE 103 r_u16 (List.set s2.1 (Int.toNat s2.2.2) (IntKind.u16.wrap (IntKind.u32.wrap ((IntKind.u32.wrap ((IntKind.u32.wrap v3) + v10)) - o6)))))]) F 50 a w := hAt
          refine blk_n ?_
          refine then_n ?_
          refine reg [⟨fV r_i64 (IntKind.i64.wrap (s2.2.2 + 1)), [], [(15, none)], []⟩,
              ⟨fV r_i64 (IntKind.i64.wrap (s2.2.2 + 1)), [], [(47, some 0)], []⟩] [1, 6, 13, 14, 15] [5] hAt
              ⟨ok_add rfl opd0 opdI,
              ok_move rfl opd0, trivial⟩ (by kernel_rfl) ?_
          clear hAt
          intro a w hAt
          replace hAt : At B h0 (mkG [(1, fV (Rep.slice r_u16) x1), (6, fV r_u32 0), (13, fV (Rep.slice r_u16) x0), (14, fV r_i64 (List.length x0 : Int)), (15, fV r_i64 (IntKind.i64.wrap (s2.2.2 + 1)))]) (mkO [(5, arrE 103 r_u16 (List.set s2.1 (Int.toNat s2.2.2) (IntKind.u16.wrap (IntKind.u32.wrap ((IntKind.u32.wrap ((IntKind.u32.wrap v3) + v10)) - o6)))))]) F 50 a w := hAt
          cases H
          exact ⟨rfl, hAt.pick [1, 6, 13, 14, 15] [5]⟩
    · intro hb13
      have H := iteF hb13 H
      refine wp_exit ?_
      refine then_x ?_
      cases H
      exact ⟨ex_ne, rfl, hAt.pick [] [5]⟩
  · exact hAt.pick [1, 6, 13, 14, 15] [5]
  · clear hAt
    intro e a w hp
    obtain ⟨rfl, hAt⟩ := hp
    refine blk_eq ?_
    refine then_n ?_
    refine wp_seq ?_
    have hAt := At.freeze 5 hAt rfl
    replace hAt := hAt.pick [5] []
    replace hAt : At B h0 (mkG [(5, fV (Rep.slice r_u16) o14)]) (mkO []) F 50 a w := hAt
    obtain ⟨v16, hv16, H⟩ := bindE H
    refine reg [⟨fV (Rep.slice r_u16) o14, [], [(5, none)], []⟩,
        ⟨fV (Rep.slice r_u16) v16, [], [(48, some 0)], []⟩,
        ⟨fV (Rep.slice r_u16) v16, [], [(49, some 1)], []⟩] [4] [] hAt
        ⟨ok_move rfl opd0,
        ok_call (ok_f_exact_trim N o14 _ hv16) Try.func143 (by kernel_rfl) (by kernel_rfl) rfl ⟨opd0, trivial⟩,
        ok_assign rfl opd0, trivial⟩ (by kernel_rfl) ?_
    clear hAt
    intro a w hAt
    replace hAt : At B h0 (mkG [(4, fV (Rep.slice r_u16) v16)]) (mkO []) F 50 a w := hAt
    refine then_n ?_
    refine wp_ret ?_
    cases H
    exact ret1 rfl (rv_tmp rfl rfl) hAt
theorem ok_f_exact_Add (N : Nat) (x0 : GInt) (x1 : GInt) (r : GInt) (H : f_exact_Add N x0 x1 = some r) : FnOk Try.prog 117 [fV GInt.rep x0, fV GInt.rep x1] (fV GInt.rep r) := by
  unfold f_exact_Add at H
  refine fn_enter Try.func117 rfl rfl (by kernel_rfl) ?_
  intro κ B h0 F a w hAt
  refine wp_seq ?_
  refine reg [⟨fRef GInt.rep x0, [], [(0, none)], []⟩,
      ⟨fRef GInt.rep x1, [], [(1, none)], []⟩,
      ⟨Fact.triv, [(4, some (boxE 47 GInt.rep (⟨false, []⟩ : GInt)))], [], []⟩] [2, 3] [4] hAt
      ⟨ok_box rfl opd0,
      ok_box rfl opd0,
      ok_alloc ty47 rfl rfl, trivial⟩ (by kernel_rfl) ?_
  clear hAt
  intro a w hAt
  replace hAt : At B h0 (mkG [(2, fRef GInt.rep x0), (3, fRef GInt.rep x1)]) (mkO [(4, boxE 47 GInt.rep (⟨false, []⟩ : GInt))]) F 40 a w := hAt
  refine then_n ?_
  refine wp_seq ?_
  obtain ⟨v1, hv1, H⟩ := bindE H
  obtain ⟨v2, hv2, H⟩ := bindE H
  refine regd [⟨fRef (Rep.slice r_u16) x0.Limbs, [], [(2, none)], []⟩,
      ⟨fV (Rep.slice r_u16) x0.Limbs, [], [(7, some 0)], []⟩,
      ⟨fV (Rep.slice r_u16) v1, [], [(8, some 1)], []⟩,
      ⟨fRef (Rep.slice r_u16) x1.Limbs, [], [(3, none)], []⟩,
      ⟨fV (Rep.slice r_u16) x1.Limbs, [], [(10, some 3)], []⟩,
      ⟨fV (Rep.slice r_u16) v2, [], [(11, some 4)], []⟩,
      ⟨fV (Rep.slice r_u16) v1, [], [(9, some 2)], []⟩,
      ⟨fV (Rep.slice r_u16) v2, [], [(12, some 5)], []⟩] [0, 1, 2, 3, 4, 5, 6, 7] [0, 1, 2, 3, 4, 5, 6, 7] [2, 3, 5, 6] [4] hAt
      ⟨ok_field GInt.l1 fo47_1 rfl opd0,
      ok_load ty45 rfl opd0,
      ok_call (ok_f_exact_trim N x0.Limbs _ hv1) Try.func143 (by kernel_rfl) (by kernel_rfl) rfl ⟨opd0, trivial⟩,
      ok_field GInt.l1 fo47_1 rfl opd0,
      ok_load ty45 rfl opd0,
      ok_call (ok_f_exact_trim N x1.Limbs _ hv2) Try.func143 (by kernel_rfl) (by kernel_rfl) rfl ⟨opd0, trivial⟩,
      ok_assign rfl opd0,
      ok_assign rfl opd0, trivial⟩ (by kernel_rfl) ?_
  clear hAt
  intro a w hAt
  replace hAt : At B h0 (mkG [(2, fRef GInt.rep x0), (3, fRef GInt.rep x1), (5, fV (Rep.slice r_u16) v1), (6, fV (Rep.slice r_u16) v2)]) (mkO [(4, boxE 47 GInt.rep (⟨false, []⟩ : GInt))]) F 40 a w := hAt
  refine then_n ?_
  refine wp_seq ?_
  refine wp_seq ?_
  refine reg [⟨fRef Rep.bool x0.Neg, [], [(2, none)], []⟩,
      ⟨fV Rep.bool x0.Neg, [], [(13, some 0)], []⟩,
      ⟨fRef Rep.bool x1.Neg, [], [(3, none)], []⟩,
      ⟨fV Rep.bool x1.Neg, [], [(15, some 2)], []⟩,
      ⟨fV Rep.bool (x0.Neg == x1.Neg), [], [(14, some 1), (16, some 3)], []⟩] [2, 3, 5, 6, 17] [4] hAt
      ⟨ok_field GInt.l0 fo47_0 rfl opd0,
      ok_load ty4 rfl opd0,
      ok_field GInt.l0 fo47_0 rfl opd0,
      ok_load ty4 rfl opd0,
      ok_eqB un4 rfl opd0 opd1, trivial⟩ (by kernel_rfl) ?_
  clear hAt
  intro a w hAt
  replace hAt : At B h0 (mkG [(2, fRef GInt.rep x0), (3, fRef GInt.rep x1), (5, fV (Rep.slice r_u16) v1), (6, fV (Rep.slice r_u16) v2), (17, fV Rep.bool (x0.Neg == x1.Neg))]) (mkO [(4, boxE 47 GInt.rep (⟨false, []⟩ : GInt))]) F 40 a w := hAt
  refine then_n ?_
  refine wp_if hAt (by rfl) ?_ ?_
  · intro hb11
    have H := iteT hb11 H
    refine wp_seq ?_
    obtain ⟨v3, hv3, H⟩ := bindE H
    obtain ⟨v4, hv4, H⟩ := bindE H
    refine regd [⟨fRef Rep.bool x0.Neg, [], [(2, none)], []⟩,
        ⟨fV Rep.bool x0.Neg, [], [(18, some 0)], []⟩,
        ⟨fV (Rep.slice r_u16) v1, [], [(5, none)], []⟩,
        ⟨fV (Rep.slice r_u16) v2, [], [(6, none)], []⟩,
        ⟨fV (Rep.slice r_u16) v3, [], [(20, some 2), (21, some 3)], []⟩,
        ⟨fV GInt.rep v4, [], [(19, some 1), (22, some 4)], []⟩,
        ⟨Fact.triv, [(4, some (boxE 47 GInt.rep v4))], [(23, some 5)], [(4, none)]⟩] [0, 1, 2, 3, 4, 5, 6] [0, 1, 2, 3, 4, 5, 6] [] [4] hAt
        ⟨ok_field GInt.l0 fo47_0 rfl opd0,
        ok_load ty4 rfl opd0,
        ok_move rfl opd0,
        ok_move rfl opd0,
        ok_call (ok_f_exact_plus N v1 v2 _ hv3) Try.func149 (by kernel_rfl) (by kernel_rfl) rfl ⟨opd0, ⟨opd1, trivial⟩⟩,
        ok_call (ok_f_exact_signed N x0.Neg v3 _ hv4) Try.func146 (by kernel_rfl) (by kernel_rfl) rfl ⟨opd0, ⟨opd1, trivial⟩⟩,
        ok_storeBox ty47 rfl rfl opd0, trivial⟩ (by kernel_rfl) ?_
    clear hAt
    intro a w hAt
    replace hAt : At B h0 (mkG []) (mkO [(4, boxE 47 GInt.rep v4)]) F 40 a w := hAt
    refine then_n ?_
    refine wp_ret ?_
    refine then_r ?_
    cases H
    exact ret1 rfl (rv_cell ty47 rfl) hAt
  · intro hb11
    have H := iteF hb11 H
    refine wp_skip ?_
    refine then_n ?_
    refine wp_seq ?_
    refine wp_seq ?_
    obtain ⟨v5, hv5, H⟩ := bindE H
    refine reg [⟨fV (Rep.slice r_u16) v1, [], [(5, none)], []⟩,
        ⟨fV (Rep.slice r_u16) v2, [], [(6, none)], []⟩,
        ⟨fV r_i64 v5, [], [(24, some 0), (25, some 1)], []⟩,
        ⟨fV Rep.bool (cmpI .geq v5 0), [], [(26, some 2)], []⟩] [2, 3, 5, 6, 27] [4] hAt
        ⟨ok_move rfl opd0,
        ok_move rfl opd0,
        ok_call (ok_f_exact_compare N v1 v2 _ hv5) Try.func150 (by kernel_rfl) (by kernel_rfl) rfl ⟨opd0, ⟨opd1, trivial⟩⟩,
        ok_cmp (op := .geq) (by simp) rfl rfl opd0 opdI, trivial⟩ (by kernel_rfl) ?_
    clear hAt
    intro a w hAt
    replace hAt : At B h0 (mkG [(2, fRef GInt.rep x0), (3, fRef GInt.rep x1), (5, fV (Rep.slice r_u16) v1), (6, fV (Rep.slice r_u16) v2), (27, fV Rep.bool (cmpI .geq v5 0))]) (mkO [(4, boxE 47 GInt.rep (⟨false, []⟩ : GInt))]) F 40 a w := hAt
    refine then_n ?_
    refine wp_if hAt (by rfl) ?_ ?_
    · intro hb10
      have H := iteT hb10 H
      refine wp_seq ?_
      obtain ⟨v6, hv6, H⟩ := bindE H
      obtain ⟨v7, hv7, H⟩ := bindE H
      refine regd [⟨fRef Rep.bool x0.Neg, [], [(2, none)], []⟩,
          ⟨fV Rep.bool x0.Neg, [], [(28, some 0)], []⟩,
          ⟨fV (Rep.slice r_u16) v1, [], [(5, none)], []⟩,
          ⟨fV (Rep.slice r_u16) v2, [], [(6, none)], []⟩,
          ⟨fV (Rep.slice r_u16) v6, [], [(30, some 2), (31, some 3)], []⟩,
          ⟨fV GInt.rep v7, [], [(29, some 1), (32, some 4)], []⟩,
          ⟨Fact.triv, [(4, some (boxE 47 GInt.rep v7))], [(33, some 5)], [(4, none)]⟩] [0, 1, 2, 3, 4, 5, 6] [0, 1, 2, 3, 4, 5, 6] [] [4] hAt
          ⟨ok_field GInt.l0 fo47_0 rfl opd0,
          ok_load ty4 rfl opd0,
          ok_move rfl opd0,
          ok_move rfl opd0,
          ok_call (ok_f_exact_minus N v1 v2 _ hv6) Try.func151 (by kernel_rfl) (by kernel_rfl) rfl ⟨opd0, ⟨opd1, trivial⟩⟩,
          ok_call (ok_f_exact_signed N x0.Neg v6 _ hv7) Try.func146 (by kernel_rfl) (by kernel_rfl) rfl ⟨opd0, ⟨opd1, trivial⟩⟩,
          ok_storeBox ty47 rfl rfl opd0, trivial⟩ (by kernel_rfl) ?_
      clear hAt
      intro a w hAt
      replace hAt : At B h0 (mkG []) (mkO [(4, boxE 47 GInt.rep v7)]) F 40 a w := hAt
      refine then_n ?_
      refine wp_ret ?_
      refine then_r ?_
      cases H
      exact ret1 rfl (rv_cell ty47 rfl) hAt
    · intro hb10
      have H := iteF hb10 H
      refine wp_skip ?_
      refine then_n ?_
      refine wp_seq ?_
      obtain ⟨v8, hv8, H⟩ := bindE H
      obtain ⟨v9, hv9, H⟩ := bindE H
      refine regd [⟨fRef Rep.bool x1.Neg, [], [(3, none)], []⟩,
          ⟨fV Rep.bool x1.Neg, [], [(34, some 0)], []⟩,
          ⟨fV (Rep.slice r_u16) v2, [], [(6, none)], []⟩,
          ⟨fV (Rep.slice r_u16) v1, [], [(5, none)], []⟩,
          ⟨fV (Rep.slice r_u16) v8, [], [(36, some 2), (37, some 3)], []⟩,
          ⟨fV GInt.rep v9, [], [(35, some 1), (38, some 4)], []⟩,
          ⟨Fact.triv, [(4, some (boxE 47 GInt.rep v9))], [(39, some 5)], [(4, none)]⟩] [0, 1, 2, 3, 4, 5, 6] [0, 1, 2, 3, 4, 5, 6] [] [4] hAt
          ⟨ok_field GInt.l0 fo47_0 rfl opd0,
          ok_load ty4 rfl opd0,
          ok_move rfl opd0,
          ok_move rfl opd0,
          ok_call (ok_f_exact_minus N v2 v1 _ hv8) Try.func151 (by kernel_rfl) (by kernel_rfl) rfl ⟨opd0, ⟨opd1, trivial⟩⟩,
          ok_call (ok_f_exact_signed N x1.Neg v8 _ hv9) Try.func146 (by kernel_rfl) (by kernel_rfl) rfl ⟨opd0, ⟨opd1, trivial⟩⟩,
          ok_storeBox ty47 rfl rfl opd0, trivial⟩ (by kernel_rfl) ?_
      clear hAt
      intro a w hAt
      replace hAt : At B h0 (mkG []) (mkO [(4, boxE 47 GInt.rep v9)]) F 40 a w := hAt
      refine then_n ?_
      refine wp_ret ?_
      cases H
      exact ret1 rfl (rv_cell ty47 rfl) hAt
theorem ok_f_exact_AddRat (N : Nat) (x0 : GRat) (x1 : GRat) (r : GRat) (H : f_exact_AddRat N x0 x1 = some r) : FnOk Try.prog 74 [fV GRat.rep x0, fV GRat.rep x1] (fV GRat.rep r) := by
  unfold f_exact_AddRat at H
  refine fn_enter Try.func74 rfl rfl (by kernel_rfl) ?_
  intro κ B h0 F a w hAt
  refine wp_seq ?_
  refine reg [⟨fRef GRat.rep x0, [], [(0, none)], []⟩,
      ⟨fRef GRat.rep x1, [], [(1, none)], []⟩,
      ⟨Fact.triv, [(4, some (boxE 49 GRat.rep (⟨(⟨false, []⟩ : GInt), (⟨false, []⟩ : GInt)⟩ : GRat)))], [], []⟩] [2, 3] [4] hAt
      ⟨ok_box rfl opd0,
      ok_box rfl opd0,
      ok_alloc ty49 rfl rfl, trivial⟩ (by kernel_rfl) ?_
  clear hAt
  intro a w hAt
  replace hAt : At B h0 (mkG [(2, fRef GRat.rep x0), (3, fRef GRat.rep x1)]) (mkO [(4, boxE 49 GRat.rep (⟨(⟨false, []⟩ : GInt), (⟨false, []⟩ : GInt)⟩ : GRat))]) F 32 a w := hAt
  refine then_n ?_
  refine wp_seq ?_
  refine wp_seq ?_
  obtain ⟨v1, hv1, H⟩ := bindE H
  refine reg [⟨fV GRat.rep x0, [], [(2, none)], []⟩,
      ⟨fV Rep.bool v1, [], [(7, some 0)], []⟩] [2, 3, 8] [4] hAt
      ⟨ok_load ty49 rfl opd0,
      ok_call (ok_f_exact_isZero N x0 _ hv1) Try.func115 (by kernel_rfl) (by kernel_rfl) rfl ⟨opd0, trivial⟩, trivial⟩ (by kernel_rfl) ?_
  clear hAt
  intro a w hAt
  replace hAt : At B h0 (mkG [(2, fRef GRat.rep x0), (3, fRef GRat.rep x1), (8, fV Rep.bool v1)]) (mkO [(4, boxE 49 GRat.rep (⟨(⟨false, []⟩ : GInt), (⟨false, []⟩ : GInt)⟩ : GRat))]) F 32 a w := hAt
  refine then_n ?_
  refine wp_if hAt (by rfl) ?_ ?_
  · intro hb13
    have H := iteT hb13 H
    refine wp_seq ?_
    obtain ⟨v2, hv2, H⟩ := bindE H
    refine reg [⟨fV GRat.rep x1, [], [(3, none)], []⟩,
        ⟨fV GRat.rep v2, [], [(9, some 0)], []⟩,
        ⟨Fact.triv, [(4, some (boxE 49 GRat.rep v2))], [(10, some 1)], [(4, none)]⟩] [] [4] hAt
        ⟨ok_load ty49 rfl opd0,
        ok_call (ok_f_exact_lowest N x1 _ hv2) Try.func116 (by kernel_rfl) (by kernel_rfl) rfl ⟨opd0, trivial⟩,
        ok_storeBox ty49 rfl rfl opd0, trivial⟩ (by kernel_rfl) ?_
    clear hAt
    intro a w hAt
    replace hAt : At B h0 (mkG []) (mkO [(4, boxE 49 GRat.rep v2)]) F 32 a w := hAt
    refine then_n ?_
    refine wp_ret ?_
    refine then_r ?_
    cases H
    exact ret1 rfl (rv_cell ty49 rfl) hAt
  · intro hb13
    have H := iteF hb13 H
    refine wp_skip ?_
    refine then_n ?_
    refine wp_seq ?_
    refine wp_seq ?_
    obtain ⟨v3, hv3, H⟩ := bindE H
    refine reg [⟨fV GRat.rep x1, [], [(3, none)], []⟩,
        ⟨fV Rep.bool v3, [], [(11, some 0)], []⟩] [2, 3, 12] [4] hAt
        ⟨ok_load ty49 rfl opd0,
        ok_call (ok_f_exact_isZero N x1 _ hv3) Try.func115 (by kernel_rfl) (by kernel_rfl) rfl ⟨opd0, trivial⟩, trivial⟩ (by kernel_rfl) ?_
    clear hAt
    intro a w hAt
    replace hAt : At B h0 (mkG [(2, fRef GRat.rep x0), (3, fRef GRat.rep x1), (12, fV Rep.bool v3)]) (mkO [(4, boxE 49 GRat.rep (⟨(⟨false, []⟩ : GInt), (⟨false, []⟩ : GInt)⟩ : GRat))]) F 32 a w := hAt
    refine then_n ?_
    refine wp_if hAt (by rfl) ?_ ?_
    · intro hb12
      have H := iteT hb12 H
      refine wp_seq ?_
      obtain ⟨v4, hv4, H⟩ := bindE H
      refine reg [⟨fV GRat.rep x0, [], [(2, none)], []⟩,
          ⟨fV GRat.rep v4, [], [(13, some 0)], []⟩,
          ⟨Fact.triv, [(4, some (boxE 49 GRat.rep v4))], [(14, some 1)], [(4, none)]⟩] [] [4] hAt
          ⟨ok_load ty49 rfl opd0,
          ok_call (ok_f_exact_lowest N x0 _ hv4) Try.func116 (by kernel_rfl) (by kernel_rfl) rfl ⟨opd0, trivial⟩,
          ok_storeBox ty49 rfl rfl opd0, trivial⟩ (by kernel_rfl) ?_
      clear hAt
      intro a w hAt
      replace hAt : At B h0 (mkG []) (mkO [(4, boxE 49 GRat.rep v4)]) F 32 a w := hAt
      refine then_n ?_
      refine wp_ret ?_
      refine then_r ?_
      cases H
      exact ret1 rfl (rv_cell ty49 rfl) hAt
    · intro hb12
      have H := iteF hb12 H
      refine wp_skip ?_
      refine then_n ?_
      refine wp_seq ?_
      obtain ⟨v5, hv5, H⟩ := bindE H
      obtain ⟨v6, hv6, H⟩ := bindE H
      refine regd [⟨fV GRat.rep x0, [], [(2, none)], []⟩,
          ⟨fV GInt.rep v5, [], [(15, some 0)], []⟩,
          ⟨fV GRat.rep x1, [], [(3, none)], []⟩,
          ⟨fV GInt.rep v6, [], [(17, some 2)], []⟩,
          ⟨Fact.triv, [(5, some (boxE 47 GInt.rep (⟨false, []⟩ : GInt)))], [], []⟩,
          ⟨Fact.triv, [(6, some (boxE 47 GInt.rep (⟨false, []⟩ : GInt)))], [], []⟩,
          ⟨Fact.triv, [(5, some (boxE 47 GInt.rep v5))], [(16, some 1)], [(5, some 4)]⟩,
          ⟨Fact.triv, [(6, some (boxE 47 GInt.rep v6))], [(18, some 3)], [(6, some 5)]⟩] [0, 1, 2, 3, 4, 5, 6, 7] [0, 1, 2, 3, 4, 5, 6, 7] [2, 3] [4, 5, 6] hAt
          ⟨ok_load ty49 rfl opd0,
          ok_call (ok_f_exact_below N x0 _ hv5) Try.func114 (by kernel_rfl) (by kernel_rfl) rfl ⟨opd0, trivial⟩,
          ok_load ty49 rfl opd0,
          ok_call (ok_f_exact_below N x1 _ hv6) Try.func114 (by kernel_rfl) (by kernel_rfl) rfl ⟨opd0, trivial⟩,
          ok_alloc ty47 rfl rfl,
          ok_alloc ty47 rfl rfl,
          ok_storeBox ty47 rfl rfl opd0,
          ok_storeBox ty47 rfl rfl opd0, trivial⟩ (by kernel_rfl) ?_
      clear hAt
      intro a w hAt
      replace hAt : At B h0 (mkG [(2, fRef GRat.rep x0), (3, fRef GRat.rep x1)]) (mkO [(4, boxE 49 GRat.rep (⟨(⟨false, []⟩ : GInt), (⟨false, []⟩ : GInt)⟩ : GRat)), (5, boxE 47 GInt.rep v5), (6, boxE 47 GInt.rep v6)]) F 32 a w := hAt
      refine then_n ?_
      refine wp_seq ?_
      obtain ⟨v7, hv7, H⟩ := bindE H
      obtain ⟨v8, hv8, H⟩ := bindE H
      obtain ⟨v9, hv9, H⟩ := bindE H
      obtain ⟨v10, hv10, H⟩ := bindE H
      obtain ⟨v11, hv11, H⟩ := bindE H
      refine regd [⟨fRef GInt.rep x0.Num, [], [(2, none)], []⟩,
          ⟨fV GInt.rep x0.Num, [], [(19, some 0)], []⟩,
          ⟨fV GInt.rep v6, [], [], [(6, none)]⟩,
          ⟨fV GInt.rep v7, [], [(20, some 1), (21, some 2)], []⟩,
          ⟨fRef GInt.rep x1.Num, [], [(3, none)], []⟩,
          ⟨fV GInt.rep x1.Num, [], [(23, some 4)], []⟩,
          ⟨fV GInt.rep v5, [], [], [(5, none)]⟩,
          ⟨fV GInt.rep v8, [], [(24, some 5), (25, some 6)], []⟩,
          ⟨fV GInt.rep v9, [], [(22, some 3), (26, some 7)], []⟩,
          ⟨fV GInt.rep v5, [], [], [(5, none)]⟩,
          ⟨fV GInt.rep v6, [], [], [(6, none)]⟩,
          ⟨fV GInt.rep v10, [], [(28, some 9), (29, some 10)], []⟩,
          ⟨fV GRat.rep v11, [], [(27, some 8), (30, some 11)], []⟩,
          ⟨Fact.triv, [(4, some (boxE 49 GRat.rep v11))], [(31, some 12)], [(4, none)]⟩] [0, 1, 2, 3, 4, 5, 6, 7, 8, 9, 10, 11, 12, 13] [0, 1, 2, 3, 4, 5, 6, 7, 8, 9, 10, 11, 12, 13] [] [4] hAt
          ⟨ok_field GRat.l0 fo49_0 rfl opd0,
          ok_load ty47 rfl opd0,
          ok_loadBox ty47 rfl,
          ok_call (ok_f_exact_Mul N x0.Num v6 _ hv7) Try.func113 (by kernel_rfl) (by kernel_rfl) rfl ⟨opd0, ⟨opd1, trivial⟩⟩,
          ok_field GRat.l0 fo49_0 rfl opd0,
          ok_load ty47 rfl opd0,
          ok_loadBox ty47 rfl,
          ok_call (ok_f_exact_Mul N x1.Num v5 _ hv8) Try.func113 (by kernel_rfl) (by kernel_rfl) rfl ⟨opd0, ⟨opd1, trivial⟩⟩,
          ok_call (ok_f_exact_Add N v7 v8 _ hv9) Try.func117 (by kernel_rfl) (by kernel_rfl) rfl ⟨opd0, ⟨opd1, trivial⟩⟩,
          ok_loadBox ty47 rfl,
          ok_loadBox ty47 rfl,
          ok_call (ok_f_exact_Mul N v5 v6 _ hv10) Try.func113 (by kernel_rfl) (by kernel_rfl) rfl ⟨opd0, ⟨opd1, trivial⟩⟩,
          ok_call (ok_f_exact_fraction N v9 v10 _ hv11) Try.func112 (by kernel_rfl) (by kernel_rfl) rfl ⟨opd0, ⟨opd1, trivial⟩⟩,
          ok_storeBox ty49 rfl rfl opd0, trivial⟩ (by kernel_rfl) ?_
      clear hAt
      intro a w hAt
      replace hAt : At B h0 (mkG []) (mkO [(4, boxE 49 GRat.rep v11)]) F 32 a w := hAt
      refine then_n ?_
      refine wp_ret ?_
      cases H
      exact ret1 rfl (rv_cell ty49 rfl) hAt
theorem ok_f_exact_MulRat (N : Nat) (x0 : GRat) (x1 : GRat) (r : GRat) (H : f_exact_MulRat N x0 x1 = some r) : FnOk Try.prog 73 [fV GRat.rep x0, fV GRat.rep x1] (fV GRat.rep r) := by
  unfold f_exact_MulRat at H
  refine fn_enter Try.func73 rfl rfl (by kernel_rfl) ?_
  intro κ B h0 F a w hAt
  refine wp_seq ?_
  refine reg [⟨fRef GRat.rep x0, [], [(0, none)], []⟩,
      ⟨fRef GRat.rep x1, [], [(1, none)], []⟩,
      ⟨Fact.triv, [(4, some (boxE 49 GRat.rep (⟨(⟨false, []⟩ : GInt), (⟨false, []⟩ : GInt)⟩ : GRat)))], [], []⟩] [2, 3] [4] hAt
      ⟨ok_box rfl opd0,
      ok_box rfl opd0,
      ok_alloc ty49 rfl rfl, trivial⟩ (by kernel_rfl) ?_
  clear hAt
  intro a w hAt
  replace hAt : At B h0 (mkG [(2, fRef GRat.rep x0), (3, fRef GRat.rep x1)]) (mkO [(4, boxE 49 GRat.rep (⟨(⟨false, []⟩ : GInt), (⟨false, []⟩ : GInt)⟩ : GRat))]) F 16 a w := hAt
  refine then_n ?_
  refine wp_seq ?_
  obtain ⟨v1, hv1, H⟩ := bindE H
  obtain ⟨v2, hv2, H⟩ := bindE H
  obtain ⟨v3, hv3, H⟩ := bindE H
  obtain ⟨v4, hv4, H⟩ := bindE H
  obtain ⟨v5, hv5, H⟩ := bindE H
  refine regd [⟨fRef GInt.rep x0.Num, [], [(2, none)], []⟩,
      ⟨fV GInt.rep x0.Num, [], [(5, some 0)], []⟩,
      ⟨fRef GInt.rep x1.Num, [], [(3, none)], []⟩,
      ⟨fV GInt.rep x1.Num, [], [(7, some 2)], []⟩,
      ⟨fV GInt.rep v1, [], [(6, some 1), (8, some 3)], []⟩,
      ⟨fV GRat.rep x0, [], [(2, none)], []⟩,
      ⟨fV GInt.rep v2, [], [(10, some 5)], []⟩,
      ⟨fV GRat.rep x1, [], [(3, none)], []⟩,
      ⟨fV GInt.rep v3, [], [(12, some 7)], []⟩,
      ⟨fV GInt.rep v4, [], [(11, some 6), (13, some 8)], []⟩,
      ⟨fV GRat.rep v5, [], [(9, some 4), (14, some 9)], []⟩,
      ⟨Fact.triv, [(4, some (boxE 49 GRat.rep v5))], [(15, some 10)], [(4, none)]⟩] [0, 1, 2, 3, 4, 5, 6, 7, 8, 9, 10, 11] [0, 1, 2, 3, 4, 5, 6, 7, 8, 9, 10, 11] [] [4] hAt
      ⟨ok_field GRat.l0 fo49_0 rfl opd0,
      ok_load ty47 rfl opd0,
      ok_field GRat.l0 fo49_0 rfl opd0,
      ok_load ty47 rfl opd0,
      ok_call (ok_f_exact_Mul N x0.Num x1.Num _ hv1) Try.func113 (by kernel_rfl) (by kernel_rfl) rfl ⟨opd0, ⟨opd1, trivial⟩⟩,
      ok_load ty49 rfl opd0,
      ok_call (ok_f_exact_below N x0 _ hv2) Try.func114 (by kernel_rfl) (by kernel_rfl) rfl ⟨opd0, trivial⟩,
      ok_load ty49 rfl opd0,
      ok_call (ok_f_exact_below N x1 _ hv3) Try.func114 (by kernel_rfl) (by kernel_rfl) rfl ⟨opd0, trivial⟩,
      ok_call (ok_f_exact_Mul N v2 v3 _ hv4) Try.func113 (by kernel_rfl) (by kernel_rfl) rfl ⟨opd0, ⟨opd1, trivial⟩⟩,
      ok_call (ok_f_exact_fraction N v1 v4 _ hv5) Try.func112 (by kernel_rfl) (by kernel_rfl) rfl ⟨opd0, ⟨opd1, trivial⟩⟩,
      ok_storeBox ty49 rfl rfl opd0, trivial⟩ (by kernel_rfl) ?_
  clear hAt
  intro a w hAt
  replace hAt : At B h0 (mkG []) (mkO [(4, boxE 49 GRat.rep v5)]) F 16 a w := hAt
  refine then_n ?_
  refine wp_ret ?_
  cases H
  exact ret1 rfl (rv_cell ty49 rfl) hAt
theorem ok_f_survey_MeanOfMeans (N : Nat) (x0 : (List GRun)) (r : GRat × Int) (H : f_survey_MeanOfMeans N x0 = some r) : FnOk Try.prog 26 [fV (Rep.slice GRun.rep) x0] (fT2 (fV GRat.rep (r.1)) (fV r_i64 (r.2))) := by
  unfold f_survey_MeanOfMeans at H
  refine fn_enter Try.func26 rfl rfl (by kernel_rfl) ?_
  intro κ B h0 F a w hAt
  refine wp_seq ?_
  refine reg [⟨Fact.triv, [(2, some (boxE 49 GRat.rep (⟨(⟨false, []⟩ : GInt), (⟨false, []⟩ : GInt)⟩ : GRat)))], [], []⟩,
      ⟨fV r_i64 0, [], [], []⟩] [0] [2] hAt
      ⟨ok_alloc ty49 rfl rfl,
      ok_assign rfl opdI, trivial⟩ (by kernel_rfl) ?_
  clear hAt
  intro a w hAt
  replace hAt : At B h0 (mkG [(0, fV (Rep.slice GRun.rep) x0)]) (mkO [(2, boxE 49 GRat.rep (⟨(⟨false, []⟩ : GInt), (⟨false, []⟩ : GInt)⟩ : GRat))]) F 51 a w := hAt
  refine then_n ?_
  refine wp_seq ?_
  obtain ⟨v1, hv1, H⟩ := bindE H
  refine reg [⟨fV (Rep.slice GRun.rep) x0, [], [(0, none)], []⟩,
      ⟨fT2 (Fact.triv) (fV r_i64 v1.2), [(10, some (tupE (arrE 49 GRat.rep v1.1)))], [(9, some 0)], []⟩,
      ⟨fT2 (Fact.triv) (fV r_i64 v1.2), [(10, none), (8, some (tupE (arrE 49 GRat.rep v1.1)))], [(10, some 1)], [(10, some 1)]⟩,
      ⟨Fact.triv, [(8, none), (11, some (arrE 49 GRat.rep v1.1))], [(8, some 2)], [(8, some 2)]⟩,
      ⟨fV r_i64 v1.2, [], [(8, some 2)], []⟩,
      ⟨Fact.triv, [(11, none), (4, some (arrE 49 GRat.rep v1.1))], [], [(11, some 3)]⟩,
      ⟨fV r_i64 v1.2, [], [(12, some 4)], []⟩] [5] [2, 4] hAt
      ⟨ok_move rfl opd0,
      ok_callO (okO_f_survey_Speeds N x0 _ hv1) Try.func25 (by kernel_rfl) (by kernel_rfl) rfl rfl ⟨opd0, trivial⟩,
      ok_moveOwn rfl rfl (.inl rfl) opd0,
      ok_ext20O rfl rfl rfl,
      ok_ext21 rfl rfl opd0,
      (ok_moveOwn (f := Fact.triv) rfl rfl (.inr rfl) (fun _ _ _ => trivial)),
      ok_assign rfl opd0, trivial⟩ (by kernel_rfl) ?_
  clear hAt
  intro a w hAt
  replace hAt : At B h0 (mkG [(5, fV r_i64 v1.2)]) (mkO [(2, boxE 49 GRat.rep (⟨(⟨false, []⟩ : GInt), (⟨false, []⟩ : GInt)⟩ : GRat)), (4, arrE 49 GRat.rep v1.1)]) F 51 a w := hAt
  refine then_n ?_
  refine wp_seq ?_
  refine wp_seq ?_
  refine reg [⟨fV r_i64 v1.2, [], [(5, none)], []⟩,
      ⟨fV Rep.bool (cmpI .neq v1.2 0), [], [(13, some 0)], []⟩] [5, 14] [2, 4] hAt
      ⟨ok_move rfl opd0,
      ok_cmp (op := .neq) (by simp) rfl rfl opd0 opdI, trivial⟩ (by kernel_rfl) ?_
  clear hAt
  intro a w hAt
  replace hAt : At B h0 (mkG [(5, fV r_i64 v1.2), (14, fV Rep.bool (cmpI .neq v1.2 0))]) (mkO [(2, boxE 49 GRat.rep (⟨(⟨false, []⟩ : GInt), (⟨false, []⟩ : GInt)⟩ : GRat)), (4, arrE 49 GRat.rep v1.1)]) F 51 a w := hAt
  refine then_n ?_
  refine wp_if hAt (by rfl) ?_ ?_
  · intro hb20
    have H := iteT hb20 H
    refine wp_seq ?_
    refine reg [⟨fV GRat.rep (⟨(⟨false, []⟩ : GInt), (⟨false, []⟩ : GInt)⟩ : GRat), [], [], []⟩,
        ⟨fV r_i64 v1.2, [], [(5, none)], []⟩,
        ⟨Fact.triv, [(2, some (boxE 49 GRat.rep (⟨(⟨false, []⟩ : GInt), (⟨false, []⟩ : GInt)⟩ : GRat)))], [(15, some 0)], [(2, none)]⟩,
        ⟨fV r_i64 v1.2, [], [(16, some 1)], []⟩] [3] [2] hAt
        ⟨ok_build ty49 rfl pl49 rfl fillN,
        ok_move rfl opd0,
        ok_storeBox ty49 rfl rfl opd0,
        ok_assign rfl opd0, trivial⟩ (by kernel_rfl) ?_
    clear hAt
    intro a w hAt
    replace hAt : At B h0 (mkG [(3, fV r_i64 v1.2)]) (mkO [(2, boxE 49 GRat.rep (⟨(⟨false, []⟩ : GInt), (⟨false, []⟩ : GInt)⟩ : GRat))]) F 51 a w := hAt
    refine then_n ?_
    refine wp_ret ?_
    refine then_r ?_
    cases H
    exact ret2 rfl (rv_cell ty49 rfl) (rv_tmp rfl rfl) hAt
  · intro hb20
    have H := iteF hb20 H
    refine wp_skip ?_
    refine then_n ?_
    refine wp_seq ?_
    obtain ⟨v2, hv2, H⟩ := bindE H
    refine reg [⟨fV GRat.rep v2, [], [], []⟩,
        ⟨Fact.triv, [(6, some (boxE 49 GRat.rep (⟨(⟨false, []⟩ : GInt), (⟨false, []⟩ : GInt)⟩ : GRat)))], [], []⟩,
        ⟨Fact.triv, [(6, some (boxE 49 GRat.rep v2))], [(17, some 0)], [(6, some 1)]⟩] [] [2, 4, 6] hAt
        ⟨ok_call (ok_f_survey_ratio N 1 2 _ hv2) Try.func64 (by kernel_rfl) (by kernel_rfl) rfl ⟨opdI, ⟨opdI, trivial⟩⟩,
        ok_alloc ty49 rfl rfl,
        ok_storeBox ty49 rfl rfl opd0, trivial⟩ (by kernel_rfl) ?_
    clear hAt
    intro a w hAt
    replace hAt : At B h0 (mkG []) (mkO [(2, boxE 49 GRat.rep (⟨(⟨false, []⟩ : GInt), (⟨false, []⟩ : GInt)⟩ : GRat)), (4, arrE 49 GRat.rep v1.1), (6, boxE 49 GRat.rep v2)]) F 51 a w := hAt
    refine then_n ?_
    refine wp_seq ?_
    refine wp_block ?_
    obtain ⟨o16, hl17, H⟩ := bindE H
    refine wp_mono (wp_loopN (f := f_survey_MeanOfMeans_L2 N v2) (fun (s3 : (List GRat)) a w => At B h0 (mkG []) (mkO [(2, boxE 49 GRat.rep (⟨(⟨false, []⟩ : GInt), (⟨false, []⟩ : GInt)⟩ : GRat)), (4, arrE 49 GRat.rep s3), (6, boxE 49 GRat.rep v2)]) F 51 a w) (fun o e a w => (fun v => e = .exit 0 ∧ At B h0 (mkG []) (mkO [(2, boxE 49 GRat.rep (⟨(⟨false, []⟩ : GInt), (⟨false, []⟩ : GInt)⟩ : GRat)), (4, arrE 49 GRat.rep v)]) F 51 a w) o) ?_ N v1.1 o16 _ _ hl17 ?_) ?_
    · clear H hAt hl17
      intro s3 r19 a w H hAt
      unfold f_survey_MeanOfMeans_L2 at H
      refine wp_seq ?_
      refine wp_seq ?_
      refine reg [⟨fCp 4, [], [], []⟩,
          ⟨fV r_i64 (List.length s3 : Int), [], [(18, some 0)], [(4, none)]⟩,
          ⟨fV Rep.bool (cmpI .gtr (List.length s3 : Int) 1), [], [(19, some 1)], []⟩] [20] [2, 4, 6] hAt
          ⟨ok_cp rfl,
          ok_lenArr un29 rfl opd0,
          ok_cmp (op := .gtr) (by simp) rfl rfl opd0 opdI, trivial⟩ (by kernel_rfl) ?_
      clear hAt
      intro a w hAt
      replace hAt : At B h0 (mkG [(20, fV Rep.bool (cmpI .gtr (List.length s3 : Int) 1))]) (mkO [(2, boxE 49 GRat.rep (⟨(⟨false, []⟩ : GInt), (⟨false, []⟩ : GInt)⟩ : GRat)), (4, arrE 49 GRat.rep s3), (6, boxE 49 GRat.rep v2)]) F 51 a w := hAt
      refine then_n ?_
      refine wp_if hAt (by rfl) ?_ ?_
      · intro hb15
        have H := iteT hb15 H
        refine wp_skip ?_
        refine then_n ?_
        refine wp_seq ?_
        refine wp_block ?_
        refine wp_seq ?_
        refine reg [⟨fCp 4, [], [], []⟩,
            ⟨fV r_i64 (List.length s3 : Int), [], [(26, some 0)], [(4, none)]⟩,
            ⟨fV r_i64 (IntKind.i64.wrap ((List.length s3 : Int) - 1)), [], [(27, some 1)], []⟩,
            ⟨fV r_i64 0, [], [], []⟩] [28, 29] [2, 4, 6] hAt
            ⟨ok_cp rfl,
            ok_lenArr un29 rfl opd0,
            ok_sub rfl opd0 opdI,
            ok_move rfl opdI, trivial⟩ (by kernel_rfl) ?_
        clear hAt
        intro a w hAt
        replace hAt : At B h0 (mkG [(28, fV r_i64 (IntKind.i64.wrap ((List.length s3 : Int) - 1))), (29, fV r_i64 0)]) (mkO [(2, boxE 49 GRat.rep (⟨(⟨false, []⟩ : GInt), (⟨false, []⟩ : GInt)⟩ : GRat)), (4, arrE 49 GRat.rep s3), (6, boxE 49 GRat.rep v2)]) F 51 a w := hAt
        refine then_n ?_
        refine wp_block ?_
        obtain ⟨o11, hl12, H⟩ := bindE H
        refine wp_mono (wp_loopN (f := f_survey_MeanOfMeans_L1 N v2 s3) (fun (s4 : ((List GRat) × Int)) a w => At B h0 (mkG [(28, fV r_i64 (IntKind.i64.wrap ((List.length s3 : Int) - 1))), (29, fV r_i64 s4.2)]) (mkO [(2, boxE 49 GRat.rep (⟨(⟨false, []⟩ : GInt), (⟨false, []⟩ : GInt)⟩ : GRat)), (4, arrE 49 GRat.rep s4.1), (6, boxE 49 GRat.rep v2)]) F 51 a w) (fun o e a w => (fun v => e = .exit 2 ∧ At B h0 (mkG []) (mkO [(2, boxE 49 GRat.rep (⟨(⟨false, []⟩ : GInt), (⟨false, []⟩ : GInt)⟩ : GRat)), (4, arrE 49 GRat.rep v), (6, boxE 49 GRat.rep v2)]) F 51 a w) o) ?_ N (s3, 0) o11 _ _ hl12 ?_) ?_
        · clear H hAt hl12
          intro s4 r14 a w H hAt
          unfold f_survey_MeanOfMeans_L1 at H
          refine wp_seq ?_
          refine reg [⟨fV Rep.bool (cmpI .lss s4.2 (IntKind.i64.wrap ((List.length s3 : Int) - 1))), [], [(29, none), (28, none)], []⟩] [28, 29, 30] [2, 4, 6] hAt
              ⟨ok_cmp (op := .lss) (by simp) rfl rfl opd0 opd1, trivial⟩ (by kernel_rfl) ?_
          clear hAt
          intro a w hAt
          replace hAt : At B h0 (mkG [(28, fV r_i64 (IntKind.i64.wrap ((List.length s3 : Int) - 1))), (29, fV r_i64 s4.2), (30, fV Rep.bool (cmpI .lss s4.2 (IntKind.i64.wrap ((List.length s3 : Int) - 1))))]) (mkO [(2, boxE 49 GRat.rep (⟨(⟨false, []⟩ : GInt), (⟨false, []⟩ : GInt)⟩ : GRat)), (4, arrE 49 GRat.rep s4.1), (6, boxE 49 GRat.rep v2)]) F 51 a w := hAt
          refine then_n ?_
          refine wp_seq ?_
          refine wp_if hAt (by rfl) ?_ ?_
          · intro hb10
            have H := iteT hb10 H
            refine wp_skip ?_
            refine then_n ?_
            refine wp_seq ?_
            refine wp_block ?_
            refine wp_seq ?_
            refine reg [⟨fV r_i64 s4.2, [], [(29, none)], []⟩,
                ⟨fV r_i64 s4.2, [], [(31, some 0)], []⟩] [7, 28, 29] [2, 4, 6] hAt
                ⟨ok_move rfl opd0,
                ok_assign rfl opd0, trivial⟩ (by kernel_rfl) ?_
            clear hAt
            intro a w hAt
            replace hAt : At B h0 (mkG [(7, fV r_i64 s4.2), (28, fV r_i64 (IntKind.i64.wrap ((List.length s3 : Int) - 1))), (29, fV r_i64 s4.2)]) (mkO [(2, boxE 49 GRat.rep (⟨(⟨false, []⟩ : GInt), (⟨false, []⟩ : GInt)⟩ : GRat)), (4, arrE 49 GRat.rep s4.1), (6, boxE 49 GRat.rep v2)]) F 51 a w := hAt
            refine then_n ?_
            obtain ⟨v5, hv5, H⟩ := bindE H
            obtain ⟨v6, hv6, H⟩ := bindE H
            obtain ⟨v7, hv7, H⟩ := bindE H
            obtain ⟨v8, hv8, H⟩ := bindE H
            obtain ⟨v9, hv9, H⟩ := bindE H
            refine regd [⟨fCp 4, [], [], []⟩,
                ⟨fV r_i64 s4.2, [], [(7, none)], []⟩,
                ⟨fV GRat.rep v2, [], [], [(6, none)]⟩,
                ⟨fCp 4, [], [], []⟩,
                ⟨fV r_i64 s4.2, [], [(7, none)], []⟩,
                ⟨fEl 4 ((Int.toNat s4.2) * GRat.rep.sz + 0), [], [(35, some 3), (36, some 4)], [(4, none)]⟩,
                ⟨fV GRat.rep v5, [], [(37, some 5)], [(4, none)]⟩,
                ⟨fCp 4, [], [], []⟩,
                ⟨fV r_i64 s4.2, [], [(7, none)], []⟩,
                ⟨fV r_i64 (IntKind.i64.wrap (s4.2 + 1)), [], [(40, some 8)], []⟩,
                ⟨fEl 4 ((Int.toNat (IntKind.i64.wrap (s4.2 + 1))) * GRat.rep.sz + 0), [], [(39, some 7), (41, some 9)], [(4, none)]⟩,
                ⟨fV GRat.rep v6, [], [(42, some 10)], [(4, none)]⟩,
                ⟨fV GRat.rep v7, [], [(38, some 6), (43, some 11)], []⟩,
                ⟨fV GRat.rep v8, [], [(34, some 2), (44, some 12)], []⟩,
                ⟨fEl 4 ((Int.toNat s4.2) * GRat.rep.sz + 0), [], [(32, some 0), (33, some 1)], [(4, none)]⟩,
                ⟨Fact.triv, [(4, some (arrE 49 GRat.rep (List.set s4.1 (Int.toNat s4.2) v8)))], [(46, some 14), (45, some 13)], [(4, none)]⟩] [0, 1, 2, 3, 4, 5, 6, 7, 8, 9, 10, 11, 12, 13, 14, 15] [0, 1, 2, 3, 4, 5, 6, 7, 8, 9, 10, 11, 12, 13, 14, 15] [28, 29] [2, 4, 6] hAt
                ⟨ok_cp rfl,
                ok_move rfl opd0,
                ok_loadBox ty49 rfl,
                ok_cp rfl,
                ok_move rfl opd0,
                ok_elArr hv5 ty49 un29 rfl opd0 opd1,
                ok_loadArr (idx_spec hv5).2.2 (Lens.refl _) ty49 rfl opd0,
                ok_cp rfl,
                ok_move rfl opd0,
                ok_add rfl opd0 opdI,
                ok_elArr hv6 ty49 un29 rfl opd0 opd1,
                ok_loadArr (idx_spec hv6).2.2 (Lens.refl _) ty49 rfl opd0,
                ok_call (ok_f_exact_AddRat N v5 v6 _ hv7) Try.func74 (by kernel_rfl) (by kernel_rfl) rfl ⟨opd0, ⟨opd1, trivial⟩⟩,
                ok_call (ok_f_exact_MulRat N v2 v7 _ hv8) Try.func73 (by kernel_rfl) (by kernel_rfl) rfl ⟨opd0, ⟨opd1, trivial⟩⟩,
                ok_elArr hv9 ty49 un29 rfl opd0 opd1,
                ok_storeArr (idx_spec hv9).2.2 (Lens.refl _) ty49 rfl rfl opd0 opd1 rfl, trivial⟩ (by kernel_rfl) ?_
            clear hAt
            intro a w hAt
            replace hAt : At B h0 (mkG [(28, fV r_i64 (IntKind.i64.wrap ((List.length s3 : Int) - 1))), (29, fV r_i64 s4.2)]) (mkO [(2, boxE 49 GRat.rep (⟨(⟨false, []⟩ : GInt), (⟨false, []⟩ : GInt)⟩ : GRat)), (4, arrE 49 GRat.rep (List.set s4.1 (Int.toNat s4.2) v8)), (6, boxE 49 GRat.rep v2)]) F 51 a w := hAt
            refine blk_n ?_
            refine then_n ?_
            refine reg [⟨fV r_i64 (IntKind.i64.wrap (s4.2 + 1)), [], [(29, none)], []⟩,
                ⟨fV r_i64 (IntKind.i64.wrap (s4.2 + 1)), [], [(47, some 0)], []⟩] [28, 29] [2, 4, 6] hAt
                ⟨ok_add rfl opd0 opdI,
                ok_move rfl opd0, trivial⟩ (by kernel_rfl) ?_
            clear hAt
            intro a w hAt
            replace hAt : At B h0 (mkG [(28, fV r_i64 (IntKind.i64.wrap ((List.length s3 : Int) - 1))), (29, fV r_i64 (IntKind.i64.wrap (s4.2 + 1)))]) (mkO [(2, boxE 49 GRat.rep (⟨(⟨false, []⟩ : GInt), (⟨false, []⟩ : GInt)⟩ : GRat)), (4, arrE 49 GRat.rep (List.set s4.1 (Int.toNat s4.2) v8)), (6, boxE 49 GRat.rep v2)]) F 51 a w := hAt
            cases H
            exact ⟨rfl, hAt.pick [28, 29] [2, 4, 6]⟩
          · intro hb10
            have H := iteF hb10 H
            refine wp_exit ?_
            refine then_x ?_
            cases H
            exact ⟨ex_ne, rfl, hAt.pick [] [2, 4, 6]⟩
        · exact hAt.pick [28, 29] [2, 4, 6]
        · clear hAt
          intro e a w hp
          obtain ⟨rfl, hAt⟩ := hp
          refine blk_eq ?_
          refine blk_n ?_
          refine then_n ?_
          obtain ⟨v13, hv13, H⟩ := bindE H
          refine reg [⟨fCp 4, [], [], []⟩,
              ⟨fCp 4, [], [], []⟩,
              ⟨fV r_i64 (List.length o11 : Int), [], [(22, some 1)], [(4, none)]⟩,
              ⟨fV r_i64 (IntKind.i64.wrap ((List.length o11 : Int) - 1)), [], [(23, some 2)], []⟩,
              ⟨Fact.triv, [(4, none), (25, some (arrE 49 GRat.rep v13))], [(21, some 0), (24, some 3)], [(4, none)]⟩,
              ⟨Fact.triv, [(25, none), (4, some (arrE 49 GRat.rep v13))], [], [(25, some 4)]⟩] [] [2, 4, 6] hAt
              ⟨ok_cp rfl,
              ok_cp rfl,
              ok_lenArr un29 rfl opd0,
              ok_sub rfl opd0 opdI,
              ok_takeArr rfl hv13 un29 ty49 rfl rfl rfl opd0 opd1,
              (ok_moveOwn (f := Fact.triv) rfl rfl (.inr rfl) (fun _ _ _ => trivial)), trivial⟩ (by kernel_rfl) ?_
          clear hAt
          intro a w hAt
          replace hAt : At B h0 (mkG []) (mkO [(2, boxE 49 GRat.rep (⟨(⟨false, []⟩ : GInt), (⟨false, []⟩ : GInt)⟩ : GRat)), (4, arrE 49 GRat.rep v13), (6, boxE 49 GRat.rep v2)]) F 51 a w := hAt
          cases H
          exact ⟨rfl, hAt.pick [] [2, 4, 6]⟩
      · intro hb15
        have H := iteF hb15 H
        refine wp_exit ?_
        refine then_x ?_
        cases H
        exact ⟨ex_ne, rfl, hAt.pick [] [2, 4]⟩
    · exact hAt.pick [] [2, 4, 6]
    · clear hAt
      intro e a w hp
      obtain ⟨rfl, hAt⟩ := hp
      refine blk_eq ?_
      refine then_n ?_
      refine wp_seq ?_
      obtain ⟨v18, hv18, H⟩ := bindE H
      refine reg [⟨fCp 4, [], [], []⟩,
          ⟨fEl 4 ((Int.toNat 0) * GRat.rep.sz + 0), [], [(48, some 0)], [(4, none)]⟩,
          ⟨fV GRat.rep v18, [], [(49, some 1)], [(4, none)]⟩,
          ⟨Fact.triv, [(2, some (boxE 49 GRat.rep v18))], [(50, some 2)], [(2, none)]⟩,
          ⟨fV r_i64 0, [], [], []⟩] [3] [2] hAt
          ⟨ok_cp rfl,
          ok_elArr hv18 ty49 un29 rfl opd0 opdI,
          ok_loadArr (idx_spec hv18).2.2 (Lens.refl _) ty49 rfl opd0,
          ok_storeBox ty49 rfl rfl opd0,
          ok_assign rfl opdI, trivial⟩ (by kernel_rfl) ?_
      clear hAt
      intro a w hAt
      replace hAt : At B h0 (mkG [(3, fV r_i64 0)]) (mkO [(2, boxE 49 GRat.rep v18)]) F 51 a w := hAt
      refine then_n ?_
      refine wp_ret ?_
      cases H
      exact ret2 rfl (rv_cell ty49 rfl) (rv_tmp rfl rfl) hAt
theorem ok_f_survey_letter (N : Nat) (x0 : Int) (r : Bool) (H : f_survey_letter N x0 = some r) : FnOk Try.prog 109 [fV r_u8 x0] (fV Rep.bool r) := by
  unfold f_survey_letter at H
  refine fn_enter Try.func109 rfl rfl (by kernel_rfl) ?_
  intro κ B h0 F a w hAt
  refine wp_seq ?_
  refine reg [⟨fV Rep.bool false, [], [], []⟩] [0] [] hAt
      ⟨ok_assign rfl opdB, trivial⟩ (by kernel_rfl) ?_
  clear hAt
  intro a w hAt
  replace hAt : At B h0 (mkG [(0, fV r_u8 x0)]) (mkO []) F 17 a w := hAt
  refine then_n ?_
  refine wp_seq ?_
  refine reg [⟨fV r_u8 x0, [], [(0, none)], []⟩,
      ⟨fV Rep.bool (cmpI .geq x0 97), [], [(3, some 0)], []⟩,
      ⟨fV Rep.bool (cmpI .geq x0 97), [], [(4, some 1)], []⟩,
      ⟨Fact.when ((cmpI .geq x0 97) = true) (fV r_u8 x0), [], [(5, some 2), (0, none)], []⟩,
      ⟨Fact.when ((cmpI .geq x0 97) = true) (fV Rep.bool (cmpI .leq x0 122)), [], [(5, some 2), (6, some 3)], []⟩,
      ⟨fV Rep.bool ((cmpI .geq x0 97) && (cmpI .leq x0 122)), [], [(5, some 2), (7, some 4)], []⟩,
      ⟨fV Rep.bool ((cmpI .geq x0 97) && (cmpI .leq x0 122)), [], [(8, some 5)], []⟩,
      ⟨Fact.when ((!((cmpI .geq x0 97) && (cmpI .leq x0 122))) = true) (fV r_u8 x0), [], [(9, some 6), (0, none)], []⟩,
      ⟨Fact.when ((!((cmpI .geq x0 97) && (cmpI .leq x0 122))) = true) (fV Rep.bool (cmpI .geq x0 65)), [], [(9, some 6), (10, some 7)], []⟩,
      ⟨Fact.when ((!((cmpI .geq x0 97) && (cmpI .leq x0 122))) = true) (fV Rep.bool (cmpI .geq x0 65)), [], [(9, some 6), (11, some 8)], []⟩,
      ⟨Fact.when (((!((cmpI .geq x0 97) && (cmpI .leq x0 122))) && (cmpI .geq x0 65)) = true) (fV r_u8 x0), [], [(12, some 9), (0, none)], []⟩,
      ⟨Fact.when (((!((cmpI .geq x0 97) && (cmpI .leq x0 122))) && (cmpI .geq x0 65)) = true) (fV Rep.bool (cmpI .leq x0 90)), [], [(12, some 9), (13, some 10)], []⟩,
      ⟨Fact.when ((!((cmpI .geq x0 97) && (cmpI .leq x0 122))) = true) (fV Rep.bool ((cmpI .geq x0 65) && (cmpI .leq x0 90))), [], [(9, some 6), (12, some 9), (14, some 11)], []⟩,
      ⟨fV Rep.bool (((cmpI .geq x0 97) && (cmpI .leq x0 122)) || ((cmpI .geq x0 65) && (cmpI .leq x0 90))), [], [(9, some 6), (15, some 12)], []⟩,
      ⟨fV Rep.bool (((cmpI .geq x0 97) && (cmpI .leq x0 122)) || ((cmpI .geq x0 65) && (cmpI .leq x0 90))), [], [(16, some 13)], []⟩] [2] [] hAt
      ⟨ok_move rfl opd0,
      ok_cmp (op := .geq) (by simp) rfl rfl opd0 opdI,
      ok_move rfl opd0,
      obl_tt rfl rfl rfl rfl rfl rfl rfl (fun hg => ok_move rfl opd1),
      obl_tt rfl rfl rfl rfl rfl rfl rfl (fun hg => ok_cmp (op := .leq) (by simp) rfl rfl (opd1.on hg) opdI),
      ok_and rfl opd0 (fun e => (opd1.on e)),
      ok_move rfl opd0,
      obl_tf rfl rfl rfl rfl rfl rfl rfl (fun hg => ok_move rfl opd1),
      obl_tf rfl rfl rfl rfl rfl rfl rfl (fun hg => ok_cmp (op := .geq) (by simp) rfl rfl (opd1.on hg) opdI),
      obl_tf rfl rfl rfl rfl rfl rfl rfl (fun hg => ok_move rfl (opd1.on hg)),
      obl_wt rfl rfl rfl rfl rfl rfl rfl (fun hg => ok_move rfl opd1),
      obl_wt rfl rfl rfl rfl rfl rfl rfl (fun hg => ok_cmp (op := .leq) (by simp) rfl rfl (opd1.on hg) opdI),
      obl_tf rfl rfl rfl rfl rfl rfl rfl (fun hg => ok_and rfl (opd1.on hg) (fun e => (opd2.on (andT hg e)))),
      ok_or rfl opd0 (fun e => (opd1.on (notT e))),
      ok_assign rfl opd0, trivial⟩ (by kernel_rfl) ?_
  clear hAt
  intro a w hAt
  replace hAt : At B h0 (mkG [(2, fV Rep.bool (((cmpI .geq x0 97) && (cmpI .leq x0 122)) || ((cmpI .geq x0 65) && (cmpI .leq x0 90))))]) (mkO []) F 17 a w := hAt
  refine then_n ?_
  refine wp_ret ?_
  cases H
  exact ret1 rfl (rv_tmp rfl rfl) hAt
theorem ok_f_survey_name (N : Nat) (x0 : Str) (r : Bool) (H : f_survey_name N x0 = some r) : FnOk Try.prog 70 [fV Rep.str x0] (fV Rep.bool r) := by
  unfold f_survey_name at H
  refine fn_enter Try.func70 rfl rfl (by kernel_rfl) ?_
  intro κ B h0 F a w hAt
  refine wp_seq ?_
  refine reg [⟨fV Rep.bool false, [], [], []⟩] [0] [] hAt
      ⟨ok_assign rfl opdB, trivial⟩ (by kernel_rfl) ?_
  clear hAt
  intro a w hAt
  replace hAt : At B h0 (mkG [(0, fV Rep.str x0)]) (mkO []) F 43 a w := hAt
  refine then_n ?_
  refine wp_seq ?_
  refine wp_seq ?_
  obtain ⟨v1, hv1, H⟩ := bindE H
  obtain ⟨v2, hv2, H⟩ := bindE H
  refine reg [⟨fV Rep.str x0, [], [(0, none)], []⟩,
      ⟨fV r_i64 (List.length x0 : Int), [], [(5, some 0)], []⟩,
      ⟨fV Rep.bool (cmpI .lss (List.length x0 : Int) 1), [], [(6, some 1)], []⟩,
      ⟨fV Rep.bool (cmpI .lss (List.length x0 : Int) 1), [], [(7, some 2)], []⟩,
      ⟨Fact.when ((!(cmpI .lss (List.length x0 : Int) 1)) = true) (fV Rep.str x0), [], [(8, some 3), (0, none)], []⟩,
      ⟨Fact.when ((!(cmpI .lss (List.length x0 : Int) 1)) = true) (fV r_i64 (List.length x0 : Int)), [], [(8, some 3), (9, some 4)], []⟩,
      ⟨Fact.when ((!(cmpI .lss (List.length x0 : Int) 1)) = true) (fV Rep.bool (cmpI .gtr (List.length x0 : Int) 12)), [], [(8, some 3), (10, some 5)], []⟩,
      ⟨fV Rep.bool ((cmpI .lss (List.length x0 : Int) 1) || (cmpI .gtr (List.length x0 : Int) 12)), [], [(8, some 3), (11, some 6)], []⟩,
      ⟨fV Rep.bool ((cmpI .lss (List.length x0 : Int) 1) || (cmpI .gtr (List.length x0 : Int) 12)), [], [(12, some 7)], []⟩,
      ⟨Fact.when ((!((cmpI .lss (List.length x0 : Int) 1) || (cmpI .gtr (List.length x0 : Int) 12))) = true) (fV Rep.str x0), [], [(13, some 8), (0, none)], []⟩,
      ⟨Fact.when ((!((cmpI .lss (List.length x0 : Int) 1) || (cmpI .gtr (List.length x0 : Int) 12))) = true) (fV r_u8 ((UInt8.toNat v1 : Nat) : Int)), [], [(13, some 8), (14, some 9)], []⟩,
      ⟨Fact.when ((!((cmpI .lss (List.length x0 : Int) 1) || (cmpI .gtr (List.length x0 : Int) 12))) = true) (fV Rep.bool v2), [], [(13, some 8), (15, some 10)], []⟩,
      ⟨Fact.when ((!((cmpI .lss (List.length x0 : Int) 1) || (cmpI .gtr (List.length x0 : Int) 12))) = true) (fV Rep.bool (!v2)), [], [(13, some 8), (16, some 11)], []⟩,
      ⟨fV Rep.bool (((cmpI .lss (List.length x0 : Int) 1) || (cmpI .gtr (List.length x0 : Int) 12)) || (!v2)), [], [(13, some 8), (17, some 12)], []⟩] [0, 18] [] hAt
      ⟨ok_move rfl opd0,
      ok_lenS un9 rfl opd0,
      ok_cmp (op := .lss) (by simp) rfl rfl opd0 opdI,
      ok_move rfl opd0,
      obl_tf rfl rfl rfl rfl rfl rfl rfl (fun hg => ok_move rfl opd1),
      obl_tf rfl rfl rfl rfl rfl rfl rfl (fun hg => ok_lenS un9 rfl (opd1.on hg)),
      obl_tf rfl rfl rfl rfl rfl rfl rfl (fun hg => ok_cmp (op := .gtr) (by simp) rfl rfl (opd1.on hg) opdI),
      ok_or rfl opd0 (fun e => (opd1.on (notT e))),
      ok_move rfl opd0,
      obl_tf rfl rfl rfl rfl rfl rfl rfl (fun hg => ok_move rfl opd1),
      obl_tf rfl rfl rfl rfl rfl rfl rfl (fun hg => ok_indexS (iteT hg hv1) un9 rfl (opd1.on hg) opdI),
      obl_tf rfl rfl rfl rfl rfl rfl rfl (fun hg => ok_call (ok_f_survey_letter N ((UInt8.toNat v1 : Nat) : Int) _ (iteT hg hv2)) Try.func109 (by kernel_rfl) (by kernel_rfl) rfl ⟨(opd1.on hg), trivial⟩),
      obl_tf rfl rfl rfl rfl rfl rfl rfl (fun hg => ok_not rfl (opd1.on hg)),
      ok_or rfl opd0 (fun e => (opd1.on (notT e))), trivial⟩ (by kernel_rfl) ?_
  clear hAt
  intro a w hAt
  replace hAt : At B h0 (mkG [(0, fV Rep.str x0), (18, fV Rep.bool (((cmpI .lss (List.length x0 : Int) 1) || (cmpI .gtr (List.length x0 : Int) 12)) || (!v2)))]) (mkO []) F 43 a w := hAt
  refine then_n ?_
  refine wp_if hAt (by rfl) ?_ ?_
  · intro hb13
    have H := iteT hb13 H
    refine wp_seq ?_
    refine reg [⟨fV Rep.bool false, [], [], []⟩] [2] [] hAt
        ⟨ok_assign rfl opdB, trivial⟩ (by kernel_rfl) ?_
    clear hAt
    intro a w hAt
    replace hAt : At B h0 (mkG [(2, fV Rep.bool false)]) (mkO []) F 43 a w := hAt
    refine then_n ?_
    refine wp_ret ?_
    refine then_r ?_
    cases H
    exact ret1 rfl (rv_tmp rfl rfl) hAt
  · intro hb13
    have H := iteF hb13 H
    refine wp_skip ?_
    refine then_n ?_
    refine wp_seq ?_
    refine wp_seq ?_
    refine reg [⟨fV Rep.str x0, [], [(0, none)], []⟩,
        ⟨fV r_i64 (List.length x0 : Int), [], [(19, some 0)], []⟩,
        ⟨fV r_i64 0, [], [], []⟩] [0, 20, 21] [] hAt
        ⟨ok_move rfl opd0,
        ok_lenS un9 rfl opd0,
        ok_move rfl opdI, trivial⟩ (by kernel_rfl) ?_
    clear hAt
    intro a w hAt
    replace hAt : At B h0 (mkG [(0, fV Rep.str x0), (20, fV r_i64 (List.length x0 : Int)), (21, fV r_i64 0)]) (mkO []) F 43 a w := hAt
    refine then_n ?_
    refine wp_block ?_
    obtain ⟨o8, hl9, H⟩ := bindE H
    refine wp_mono (wp_loopN (f := f_survey_name_L1 N x0) (fun (s3 : Int) a w => At B h0 (mkG [(0, fV Rep.str x0), (20, fV r_i64 (List.length x0 : Int)), (21, fV r_i64 s3)]) (mkO []) F 43 a w) (fun o e a w => (Sum.elim (fun v => e = .exit 0 ∧ At B h0 (mkG []) (mkO []) F 43 a w) (fun v => e = .ret ∧ At B h0 (mkG [(2, fV Rep.bool v)]) (mkO []) F 43 a w)) o) ?_ N 0 o8 _ _ hl9 ?_) ?_
    · clear H hAt hl9
      intro s3 r12 a w H hAt
      unfold f_survey_name_L1 at H
      refine wp_seq ?_
      refine reg [⟨fV Rep.bool (cmpI .lss s3 (List.length x0 : Int)), [], [(21, none), (20, none)], []⟩] [0, 20, 21, 22] [] hAt
          ⟨ok_cmp (op := .lss) (by simp) rfl rfl opd0 opd1, trivial⟩ (by kernel_rfl) ?_
      clear hAt
      intro a w hAt
      replace hAt : At B h0 (mkG [(0, fV Rep.str x0), (20, fV r_i64 (List.length x0 : Int)), (21, fV r_i64 s3), (22, fV Rep.bool (cmpI .lss s3 (List.length x0 : Int)))]) (mkO []) F 43 a w := hAt
      refine then_n ?_
      refine wp_seq ?_
      refine wp_if hAt (by rfl) ?_ ?_
      · intro hb7
        have H := iteT hb7 H
        refine wp_skip ?_
        refine then_n ?_
        refine wp_seq ?_
        refine wp_block ?_
        refine wp_seq ?_
        refine reg [⟨fV r_i64 s3, [], [(21, none)], []⟩,
            ⟨fV r_i64 s3, [], [(23, some 0)], []⟩] [0, 3, 20, 21] [] hAt
            ⟨ok_move rfl opd0,
            ok_assign rfl opd0, trivial⟩ (by kernel_rfl) ?_
        clear hAt
        intro a w hAt
        replace hAt : At B h0 (mkG [(0, fV Rep.str x0), (3, fV r_i64 s3), (20, fV r_i64 (List.length x0 : Int)), (21, fV r_i64 s3)]) (mkO []) F 43 a w := hAt
        refine then_n ?_
        refine wp_seq ?_
        obtain ⟨v4, hv4, H⟩ := bindE H
        refine reg [⟨fV Rep.str x0, [], [(0, none)], []⟩,
            ⟨fV r_i64 s3, [], [(3, none)], []⟩,
            ⟨fV r_u8 ((UInt8.toNat v4 : Nat) : Int), [], [(24, some 0), (25, some 1)], []⟩,
            ⟨fV r_u8 ((UInt8.toNat v4 : Nat) : Int), [], [(26, some 2)], []⟩] [0, 4, 20, 21] [] hAt
            ⟨ok_move rfl opd0,
            ok_move rfl opd0,
            ok_indexS hv4 un9 rfl opd0 opd1,
            ok_assign rfl opd0, trivial⟩ (by kernel_rfl) ?_
        clear hAt
        intro a w hAt
        replace hAt : At B h0 (mkG [(0, fV Rep.str x0), (4, fV r_u8 ((UInt8.toNat v4 : Nat) : Int)), (20, fV r_i64 (List.length x0 : Int)), (21, fV r_i64 s3)]) (mkO []) F 43 a w := hAt
        refine then_n ?_
        refine wp_seq ?_
        obtain ⟨v5, hv5, H⟩ := bindE H
        refine reg [⟨fV r_u8 ((UInt8.toNat v4 : Nat) : Int), [], [(4, none)], []⟩,
            ⟨fV Rep.bool v5, [], [(27, some 0)], []⟩,
            ⟨fV Rep.bool (!v5), [], [(28, some 1)], []⟩,
            ⟨fV Rep.bool (!v5), [], [(29, some 2)], []⟩,
            ⟨Fact.when ((!v5) = true) (fV r_u8 ((UInt8.toNat v4 : Nat) : Int)), [], [(30, some 3), (4, none)], []⟩,
            ⟨Fact.when ((!v5) = true) (fV Rep.bool (cmpI .neq ((UInt8.toNat v4 : Nat) : Int) 45)), [], [(30, some 3), (31, some 4)], []⟩,
            ⟨fV Rep.bool ((!v5) && (cmpI .neq ((UInt8.toNat v4 : Nat) : Int) 45)), [], [(30, some 3), (32, some 5)], []⟩,
            ⟨fV Rep.bool ((!v5) && (cmpI .neq ((UInt8.toNat v4 : Nat) : Int) 45)), [], [(33, some 6)], []⟩,
            ⟨Fact.when (((!v5) && (cmpI .neq ((UInt8.toNat v4 : Nat) : Int) 45)) = true) (fV r_u8 ((UInt8.toNat v4 : Nat) : Int)), [], [(34, some 7), (4, none)], []⟩,
            ⟨Fact.when (((!v5) && (cmpI .neq ((UInt8.toNat v4 : Nat) : Int) 45)) = true) (fV Rep.bool (cmpI .lss ((UInt8.toNat v4 : Nat) : Int) 48)), [], [(34, some 7), (35, some 8)], []⟩,
            ⟨Fact.when (((!v5) && (cmpI .neq ((UInt8.toNat v4 : Nat) : Int) 45)) = true) (fV Rep.bool (cmpI .lss ((UInt8.toNat v4 : Nat) : Int) 48)), [], [(34, some 7), (36, some 9)], []⟩,
            ⟨Fact.when ((((!v5) && (cmpI .neq ((UInt8.toNat v4 : Nat) : Int) 45)) && (!(cmpI .lss ((UInt8.toNat v4 : Nat) : Int) 48))) = true) (fV r_u8 ((UInt8.toNat v4 : Nat) : Int)), [], [(37, some 10), (4, none)], []⟩,
            ⟨Fact.when ((((!v5) && (cmpI .neq ((UInt8.toNat v4 : Nat) : Int) 45)) && (!(cmpI .lss ((UInt8.toNat v4 : Nat) : Int) 48))) = true) (fV Rep.bool (cmpI .gtr ((UInt8.toNat v4 : Nat) : Int) 57)), [], [(37, some 10), (38, some 11)], []⟩,
            ⟨Fact.when (((!v5) && (cmpI .neq ((UInt8.toNat v4 : Nat) : Int) 45)) = true) (fV Rep.bool ((cmpI .lss ((UInt8.toNat v4 : Nat) : Int) 48) || (cmpI .gtr ((UInt8.toNat v4 : Nat) : Int) 57))), [], [(34, some 7), (37, some 10), (39, some 12)], []⟩,
            ⟨fV Rep.bool (((!v5) && (cmpI .neq ((UInt8.toNat v4 : Nat) : Int) 45)) && ((cmpI .lss ((UInt8.toNat v4 : Nat) : Int) 48) || (cmpI .gtr ((UInt8.toNat v4 : Nat) : Int) 57))), [], [(34, some 7), (40, some 13)], []⟩] [0, 20, 21, 41] [] hAt
            ⟨ok_move rfl opd0,
            ok_call (ok_f_survey_letter N ((UInt8.toNat v4 : Nat) : Int) _ hv5) Try.func109 (by kernel_rfl) (by kernel_rfl) rfl ⟨opd0, trivial⟩,
            ok_not rfl opd0,
            ok_move rfl opd0,
            obl_tt rfl rfl rfl rfl rfl rfl rfl (fun hg => ok_move rfl opd1),
            obl_tt rfl rfl rfl rfl rfl rfl rfl (fun hg => ok_cmp (op := .neq) (by simp) rfl rfl (opd1.on hg) opdI),
            ok_and rfl opd0 (fun e => (opd1.on e)),
            ok_move rfl opd0,
            obl_tt rfl rfl rfl rfl rfl rfl rfl (fun hg => ok_move rfl opd1),
            obl_tt rfl rfl rfl rfl rfl rfl rfl (fun hg => ok_cmp (op := .lss) (by simp) rfl rfl (opd1.on hg) opdI),
            obl_tt rfl rfl rfl rfl rfl rfl rfl (fun hg => ok_move rfl (opd1.on hg)),
            obl_wf rfl rfl rfl rfl rfl rfl rfl (fun hg => ok_move rfl opd1),
            obl_wf rfl rfl rfl rfl rfl rfl rfl (fun hg => ok_cmp (op := .gtr) (by simp) rfl rfl (opd1.on hg) opdI),
            obl_tt rfl rfl rfl rfl rfl rfl rfl (fun hg => ok_or rfl (opd1.on hg) (fun e => (opd2.on (andT hg (notT e))))),
            ok_and rfl opd0 (fun e => (opd1.on e)), trivial⟩ (by kernel_rfl) ?_
        clear hAt
        intro a w hAt
        replace hAt : At B h0 (mkG [(0, fV Rep.str x0), (20, fV r_i64 (List.length x0 : Int)), (21, fV r_i64 s3), (41, fV Rep.bool (((!v5) && (cmpI .neq ((UInt8.toNat v4 : Nat) : Int) 45)) && ((cmpI .lss ((UInt8.toNat v4 : Nat) : Int) 48) || (cmpI .gtr ((UInt8.toNat v4 : Nat) : Int) 57))))]) (mkO []) F 43 a w := hAt
        refine then_n ?_
        refine wp_if hAt (by rfl) ?_ ?_
        · intro hb6
          have H := iteT hb6 H
          refine wp_seq ?_
          refine reg [⟨fV Rep.bool false, [], [], []⟩] [2] [] hAt
              ⟨ok_assign rfl opdB, trivial⟩ (by kernel_rfl) ?_
          clear hAt
          intro a w hAt
          replace hAt : At B h0 (mkG [(2, fV Rep.bool false)]) (mkO []) F 43 a w := hAt
          refine then_n ?_
          refine wp_ret ?_
          refine blk_r ?_
          refine then_r ?_
          cases H
          exact ⟨ret_ne, rfl, hAt.pick [2] []⟩
        · intro hb6
          have H := iteF hb6 H
          refine wp_skip ?_
          refine blk_n ?_
          refine then_n ?_
          refine reg [⟨fV r_i64 (IntKind.i64.wrap (s3 + 1)), [], [(21, none)], []⟩,
              ⟨fV r_i64 (IntKind.i64.wrap (s3 + 1)), [], [(42, some 0)], []⟩] [0, 20, 21] [] hAt
              ⟨ok_add rfl opd0 opdI,
              ok_move rfl opd0, trivial⟩ (by kernel_rfl) ?_
          clear hAt
          intro a w hAt
          replace hAt : At B h0 (mkG [(0, fV Rep.str x0), (20, fV r_i64 (List.length x0 : Int)), (21, fV r_i64 (IntKind.i64.wrap (s3 + 1)))]) (mkO []) F 43 a w := hAt
          cases H
          exact ⟨rfl, hAt.pick [0, 20, 21] []⟩
      · intro hb7
        have H := iteF hb7 H
        refine wp_exit ?_
        refine then_x ?_
        cases H
        exact ⟨ex_ne, rfl, hAt.pick [] []⟩
    · exact hAt.pick [0, 20, 21] []
    · clear hAt
      intro e a w hp
      cases o8 with
      | inl l10 =>
        rw [Sum.elim_inl] at H
        obtain ⟨rfl, hAt⟩ := hp
        refine blk_eq ?_
        refine then_n ?_
        refine wp_seq ?_
        refine reg [⟨fV Rep.bool true, [], [], []⟩] [2] [] hAt
            ⟨ok_assign rfl opdB, trivial⟩ (by kernel_rfl) ?_
        clear hAt
        intro a w hAt
        replace hAt : At B h0 (mkG [(2, fV Rep.bool true)]) (mkO []) F 43 a w := hAt
        refine then_n ?_
        refine wp_ret ?_
        cases H
        exact ret1 rfl (rv_tmp rfl rfl) hAt
      | inr r11 =>
        rw [Sum.elim_inr] at H
        replace hp := hp
        obtain ⟨rfl, hAt⟩ := hp
        refine blk_r ?_
        refine then_r ?_
        cases H
        exact ret1 rfl (rv_tmp rfl rfl) hAt
end Go.KB
