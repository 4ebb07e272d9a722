/- The Go functions compute what the plain functions compute. Printed by a program. No condition. -/
import Derived.Test.YtcpcedbnpieebaaGProof3
namespace Go.KB
open Go.Proofs
set_option maxRecDepth 100000
set_option linter.unusedVariables false
theorem ok_f_survey_MeanOfMeans (N : Nat) (x0 : (List GRun)) (r : GRat × Int) (H : f_survey_MeanOfMeans N x0 = some r) : FnOk Try.prog 26 [fV (Rep.slice GRun.rep) x0] (fT2 (fV GRat.rep (r.1)) (fV r_i64 (r.2))) := by
  unfold f_survey_MeanOfMeans at H
  refine fn_enter Try.func26 rfl rfl (by kernel_rfl) ?_
  intro κ B h0 F a w hAt
  refine wp_seq ?_
  refine reg [⟨Fact.triv, [(2, some (boxE 49 GRat.rep (⟨(⟨false, []⟩ : GInt), (⟨false, []⟩ : GInt)⟩ : GRat)))], [], []⟩,
      ⟨fV r_i64 0, [], [], []⟩] [0] [2] hAt
      ⟨ok_alloc ty49 rfl rfl,
      ok_assign rfl opdI, trivial⟩ (by kernel_rfl) ?_
  clear hAt
  intro a w hAt
  replace hAt : At B h0 (mkG [(0, fV (Rep.slice GRun.rep) x0)]) (mkO [(2, boxE 49 GRat.rep (⟨(⟨false, []⟩ : GInt), (⟨false, []⟩ : GInt)⟩ : GRat))]) F 51 a w := hAt
  refine then_n ?_
  refine wp_seq ?_
  obtain ⟨v1, hv1, H⟩ := bindE H
  refine reg [⟨fV (Rep.slice GRun.rep) x0, [], [(0, none)], []⟩,
      ⟨fT2 (Fact.triv) (fV r_i64 v1.2), [(10, some (tupE (arrE 49 GRat.rep v1.1)))], [(9, some 0)], []⟩,
      ⟨fT2 (Fact.triv) (fV r_i64 v1.2), [(10, none), (8, some (tupE (arrE 49 GRat.rep v1.1)))], [(10, some 1)], [(10, some 1)]⟩,
      ⟨Fact.triv, [(8, none), (11, some (arrE 49 GRat.rep v1.1))], [(8, some 2)], [(8, some 2)]⟩,
      ⟨fV r_i64 v1.2, [], [(8, some 2)], []⟩,
      ⟨Fact.triv, [(11, none), (4, some (arrE 49 GRat.rep v1.1))], [], [(11, some 3)]⟩,
      ⟨fV r_i64 v1.2, [], [(12, some 4)], []⟩] [5] [2, 4] hAt
      ⟨ok_move rfl opd0,
      ok_callO (okO_f_survey_Speeds N x0 _ hv1) Try.func25 (by kernel_rfl) (by kernel_rfl) rfl rfl ⟨opd0, trivial⟩,
      ok_moveOwn rfl rfl (.inl rfl) opd0,
      ok_ext20O rfl rfl rfl,
      ok_ext21 rfl rfl opd0,
      (ok_moveOwn (f := Fact.triv) rfl rfl (.inr rfl) (fun _ _ _ => trivial)),
      ok_assign rfl opd0, trivial⟩ (by kernel_rfl) ?_
  clear hAt
  intro a w hAt
  replace hAt : At B h0 (mkG [(5, fV r_i64 v1.2)]) (mkO [(2, boxE 49 GRat.rep (⟨(⟨false, []⟩ : GInt), (⟨false, []⟩ : GInt)⟩ : GRat)), (4, arrE 49 GRat.rep v1.1)]) F 51 a w := hAt
  refine then_n ?_
  refine wp_seq ?_
  refine wp_seq ?_
  refine reg [⟨fV r_i64 v1.2, [], [(5, none)], []⟩,
      ⟨fV Rep.bool (cmpI .neq v1.2 0), [], [(13, some 0)], []⟩] [5, 14] [2, 4] hAt
      ⟨ok_move rfl opd0,
      ok_cmp (op := .neq) (by simp) rfl rfl opd0 opdI, trivial⟩ (by kernel_rfl) ?_
  clear hAt
  intro a w hAt
  replace hAt : At B h0 (mkG [(5, fV r_i64 v1.2), (14, fV Rep.bool (cmpI .neq v1.2 0))]) (mkO [(2, boxE 49 GRat.rep (⟨(⟨false, []⟩ : GInt), (⟨false, []⟩ : GInt)⟩ : GRat)), (4, arrE 49 GRat.rep v1.1)]) F 51 a w := hAt
  refine then_n ?_
  refine wp_if hAt (by rfl) ?_ ?_
  · intro hb20
    have H := iteT hb20 H
    refine wp_seq ?_
    refine reg [⟨fV GRat.rep (⟨(⟨false, []⟩ : GInt), (⟨false, []⟩ : GInt)⟩ : GRat), [], [], []⟩,
        ⟨fV r_i64 v1.2, [], [(5, none)], []⟩,
        ⟨Fact.triv, [(2, some (boxE 49 GRat.rep (⟨(⟨false, []⟩ : GInt), (⟨false, []⟩ : GInt)⟩ : GRat)))], [(15, some 0)], [(2, none)]⟩,
        ⟨fV r_i64 v1.2, [], [(16, some 1)], []⟩] [3] [2] hAt
        ⟨ok_build ty49 rfl pl49 rfl fillN,
        ok_move rfl opd0,
        ok_storeBox ty49 rfl rfl opd0,
        ok_assign rfl opd0, trivial⟩ (by kernel_rfl) ?_
    clear hAt
    intro a w hAt
    replace hAt : At B h0 (mkG [(3, fV r_i64 v1.2)]) (mkO [(2, boxE 49 GRat.rep (⟨(⟨false, []⟩ : GInt), (⟨false, []⟩ : GInt)⟩ : GRat))]) F 51 a w := hAt
    refine then_n ?_
    refine wp_ret ?_
    refine then_r ?_
    cases H
    exact ret2 rfl (rv_cell ty49 rfl) (rv_tmp rfl rfl) hAt
  · intro hb20
    have H := iteF hb20 H
    refine wp_skip ?_
    refine then_n ?_
    refine wp_seq ?_
    obtain ⟨v2, hv2, H⟩ := bindE H
    refine reg [⟨fV GRat.rep v2, [], [], []⟩,
        ⟨Fact.triv, [(6, some (boxE 49 GRat.rep (⟨(⟨false, []⟩ : GInt), (⟨false, []⟩ : GInt)⟩ : GRat)))], [], []⟩,
        ⟨Fact.triv, [(6, some (boxE 49 GRat.rep v2))], [(17, some 0)], [(6, some 1)]⟩] [] [2, 4, 6] hAt
        ⟨ok_call (ok_f_survey_ratio N 1 2 _ hv2) Try.func64 (by kernel_rfl) (by kernel_rfl) rfl ⟨opdI, ⟨opdI, trivial⟩⟩,
        ok_alloc ty49 rfl rfl,
        ok_storeBox ty49 rfl rfl opd0, trivial⟩ (by kernel_rfl) ?_
    clear hAt
    intro a w hAt
    replace hAt : At B h0 (mkG []) (mkO [(2, boxE 49 GRat.rep (⟨(⟨false, []⟩ : GInt), (⟨false, []⟩ : GInt)⟩ : GRat)), (4, arrE 49 GRat.rep v1.1), (6, boxE 49 GRat.rep v2)]) F 51 a w := hAt
    refine then_n ?_
    refine wp_seq ?_
    refine wp_block ?_
    obtain ⟨o16, hl17, H⟩ := bindE H
    refine wp_mono (wp_loopN (f := f_survey_MeanOfMeans_L2 N v2) (fun (s3 : (List GRat)) a w => At B h0 (mkG []) (mkO [(2, boxE 49 GRat.rep (⟨(⟨false, []⟩ : GInt), (⟨false, []⟩ : GInt)⟩ : GRat)), (4, arrE 49 GRat.rep s3), (6, boxE 49 GRat.rep v2)]) F 51 a w) (fun o e a w => (fun v => e = .exit 0 ∧ At B h0 (mkG []) (mkO [(2, boxE 49 GRat.rep (⟨(⟨false, []⟩ : GInt), (⟨false, []⟩ : GInt)⟩ : GRat)), (4, arrE 49 GRat.rep v)]) F 51 a w) o) ?_ N v1.1 o16 _ _ hl17 ?_) ?_
    · clear H hAt hl17
      intro s3 r19 a w H hAt
      unfold f_survey_MeanOfMeans_L2 at H
      refine wp_seq ?_
      refine wp_seq ?_
      refine reg [⟨fCp 4, [], [], []⟩,
          ⟨fV r_i64 (List.length s3 : Int), [], [(18, some 0)], [(4, none)]⟩,
          ⟨fV Rep.bool (cmpI .gtr (List.length s3 : Int) 1), [], [(19, some 1)], []⟩] [20] [2, 4, 6] hAt
          ⟨ok_cp rfl,
          ok_lenArr un29 rfl opd0,
          ok_cmp (op := .gtr) (by simp) rfl rfl opd0 opdI, trivial⟩ (by kernel_rfl) ?_
      clear hAt
      intro a w hAt
      replace hAt : At B h0 (mkG [(20, fV Rep.bool (cmpI .gtr (List.length s3 : Int) 1))]) (mkO [(2, boxE 49 GRat.rep (⟨(⟨false, []⟩ : GInt), (⟨false, []⟩ : GInt)⟩ : GRat)), (4, arrE 49 GRat.rep s3), (6, boxE 49 GRat.rep v2)]) F 51 a w := hAt
      refine then_n ?_
      refine wp_if hAt (by rfl) ?_ ?_
      · intro hb15
        have H := iteT hb15 H
        refine wp_skip ?_
        refine then_n ?_
        refine wp_seq ?_
        refine wp_block ?_
        refine wp_seq ?_
        refine reg [⟨fCp 4, [], [], []⟩,
            ⟨fV r_i64 (List.length s3 : Int), [], [(26, some 0)], [(4, none)]⟩,
            ⟨fV r_i64 (IntKind.i64.wrap ((List.length s3 : Int) - 1)), [], [(27, some 1)], []⟩,
            ⟨fV r_i64 0, [], [], []⟩] [28, 29] [2, 4, 6] hAt
            ⟨ok_cp rfl,
            ok_lenArr un29 rfl opd0,
            ok_sub rfl opd0 opdI,
            ok_move rfl opdI, trivial⟩ (by kernel_rfl) ?_
        clear hAt
        intro a w hAt
        replace hAt : At B h0 (mkG [(28, fV r_i64 (IntKind.i64.wrap ((List.length s3 : Int) - 1))), (29, fV r_i64 0)]) (mkO [(2, boxE 49 GRat.rep (⟨(⟨false, []⟩ : GInt), (⟨false, []⟩ : GInt)⟩ : GRat)), (4, arrE 49 GRat.rep s3), (6, boxE 49 GRat.rep v2)]) F 51 a w := hAt
        refine then_n ?_
        refine wp_block ?_
        obtain ⟨o11, hl12, H⟩ := bindE H
        refine wp_mono (wp_loopN (f := f_survey_MeanOfMeans_L1 N v2 s3) (fun (s4 : ((List GRat) × Int)) a w => At B h0 (mkG [(28, fV r_i64 (IntKind.i64.wrap ((List.length s3 : Int) - 1))), (29, fV r_i64 s4.2)]) (mkO [(2, boxE 49 GRat.rep (⟨(⟨false, []⟩ : GInt), (⟨false, []⟩ : GInt)⟩ : GRat)), (4, arrE 49 GRat.rep s4.1), (6, boxE 49 GRat.rep v2)]) F 51 a w) (fun o e a w => (fun v => e = .exit 2 ∧ At B h0 (mkG []) (mkO [(2, boxE 49 GRat.rep (⟨(⟨false, []⟩ : GInt), (⟨false, []⟩ : GInt)⟩ : GRat)), (4, arrE 49 GRat.rep v), (6, boxE 49 GRat.rep v2)]) F 51 a w) o) ?_ N (s3, 0) o11 _ _ hl12 ?_) ?_
        · clear H hAt hl12
          intro s4 r14 a w H hAt
          unfold f_survey_MeanOfMeans_L1 at H
          refine wp_seq ?_
          refine reg [⟨fV Rep.bool (cmpI .lss s4.2 (IntKind.i64.wrap ((List.length s3 : Int) - 1))), [], [(29, none), (28, none)], []⟩] [28, 29, 30] [2, 4, 6] hAt
              ⟨ok_cmp (op := .lss) (by simp) rfl rfl opd0 opd1, trivial⟩ (by kernel_rfl) ?_
          clear hAt
          intro a w hAt
          replace hAt : At B h0 (mkG [(28, fV r_i64 (IntKind.i64.wrap ((List.length s3 : Int) - 1))), (29, fV r_i64 s4.2), (30, fV Rep.bool (cmpI .lss s4.2 (IntKind.i64.wrap ((List.length s3 : Int) - 1))))]) (mkO [(2, boxE 49 GRat.rep (⟨(⟨false, []⟩ : GInt), (⟨false, []⟩ : GInt)⟩ : GRat)), (4, arrE 49 GRat.rep s4.1), (6, boxE 49 GRat.rep v2)]) F 51 a w := hAt
          refine then_n ?_
          refine wp_seq ?_
          refine wp_if hAt (by rfl) ?_ ?_
          · intro hb10
            have H := iteT hb10 H
            refine wp_skip ?_
            refine then_n ?_
            refine wp_seq ?_
            refine wp_block ?_
            refine wp_seq ?_
            refine reg [⟨fV r_i64 s4.2, [], [(29, none)], []⟩,
                ⟨fV r_i64 s4.2, [], [(31, some 0)], []⟩] [7, 28, 29] [2, 4, 6] hAt
                ⟨ok_move rfl opd0,
                ok_assign rfl opd0, trivial⟩ (by kernel_rfl) ?_
            clear hAt
            intro a w hAt
            replace hAt : At B h0 (mkG [(7, fV r_i64 s4.2), (28, fV r_i64 (IntKind.i64.wrap ((List.length s3 : Int) - 1))), (29, fV r_i64 s4.2)]) (mkO [(2, boxE 49 GRat.rep (⟨(⟨false, []⟩ : GInt), (⟨false, []⟩ : GInt)⟩ : GRat)), (4, arrE 49 GRat.rep s4.1), (6, boxE 49 GRat.rep v2)]) F 51 a w := hAt
            refine then_n ?_
            obtain ⟨v5, hv5, H⟩ := bindE H
            obtain ⟨v6, hv6, H⟩ := bindE H
            obtain ⟨v7, hv7, H⟩ := bindE H
            obtain ⟨v8, hv8, H⟩ := bindE H
            obtain ⟨v9, hv9, H⟩ := bindE H
            refine regd [⟨fCp 4, [], [], []⟩,
                ⟨fV r_i64 s4.2, [], [(7, none)], []⟩,
                ⟨fV GRat.rep v2, [], [], [(6, none)]⟩,
                ⟨fCp 4, [], [], []⟩,
                ⟨fV r_i64 s4.2, [], [(7, none)], []⟩,
                ⟨fEl 4 ((Int.toNat s4.2) * GRat.rep.sz + 0), [], [(35, some 3), (36, some 4)], [(4, none)]⟩,
                ⟨fV GRat.rep v5, [], [(37, some 5)], [(4, none)]⟩,
                ⟨fCp 4, [], [], []⟩,
                ⟨fV r_i64 s4.2, [], [(7, none)], []⟩,
                ⟨fV r_i64 (IntKind.i64.wrap (s4.2 + 1)), [], [(40, some 8)], []⟩,
                ⟨fEl 4 ((Int.toNat (IntKind.i64.wrap (s4.2 + 1))) * GRat.rep.sz + 0), [], [(39, some 7), (41, some 9)], [(4, none)]⟩,
                ⟨fV GRat.rep v6, [], [(42, some 10)], [(4, none)]⟩,
                ⟨fV GRat.rep v7, [], [(38, some 6), (43, some 11)], []⟩,
                ⟨fV GRat.rep v8, [], [(34, some 2), (44, some 12)], []⟩,
                ⟨fEl 4 ((Int.toNat s4.2) * GRat.rep.sz + 0), [], [(32, some 0), (33, some 1)], [(4, none)]⟩,
                ⟨Fact.triv, [(4, some (arrE 49 GRat.rep (List.set s4.1 (Int.toNat s4.2) v8)))], [(46, some 14), (45, some 13)], [(4, none)]⟩] [0, 1, 2, 3, 4, 5, 6, 7, 8, 9, 10, 11, 12, 13, 14, 15] [0, 1, 2, 3, 4, 5, 6, 7, 8, 9, 10, 11, 12, 13, 14, 15] [28, 29] [2, 4, 6] hAt
                ⟨ok_cp rfl,
                ok_move rfl opd0,
                ok_loadBox ty49 rfl,
                ok_cp rfl,
                ok_move rfl opd0,
                ok_elArr hv5 ty49 un29 rfl opd0 opd1,
                ok_loadArr (idx_spec hv5).2.2 (Lens.refl _) ty49 rfl opd0,
                ok_cp rfl,
                ok_move rfl opd0,
                ok_add rfl opd0 opdI,
                ok_elArr hv6 ty49 un29 rfl opd0 opd1,
                ok_loadArr (idx_spec hv6).2.2 (Lens.refl _) ty49 rfl opd0,
                ok_call (ok_f_exact_AddRat N v5 v6 _ hv7) Try.func74 (by kernel_rfl) (by kernel_rfl) rfl ⟨opd0, ⟨opd1, trivial⟩⟩,
                ok_call (ok_f_exact_MulRat N v2 v7 _ hv8) Try.func73 (by kernel_rfl) (by kernel_rfl) rfl ⟨opd0, ⟨opd1, trivial⟩⟩,
                ok_elArr hv9 ty49 un29 rfl opd0 opd1,
                ok_storeArr (idx_spec hv9).2.2 (Lens.refl _) ty49 rfl rfl opd0 opd1 rfl, trivial⟩ (by kernel_rfl) ?_
            clear hAt
            intro a w hAt
            replace hAt : At B h0 (mkG [(28, fV r_i64 (IntKind.i64.wrap ((List.length s3 : Int) - 1))), (29, fV r_i64 s4.2)]) (mkO [(2, boxE 49 GRat.rep (⟨(⟨false, []⟩ : GInt), (⟨false, []⟩ : GInt)⟩ : GRat)), (4, arrE 49 GRat.rep (List.set s4.1 (Int.toNat s4.2) v8)), (6, boxE 49 GRat.rep v2)]) F 51 a w := hAt
            refine blk_n ?_
            refine then_n ?_
            refine reg [⟨fV r_i64 (IntKind.i64.wrap (s4.2 + 1)), [], [(29, none)], []⟩,
                ⟨fV r_i64 (IntKind.i64.wrap (s4.2 + 1)), [], [(47, some 0)], []⟩] [28, 29] [2, 4, 6] hAt
                ⟨ok_add rfl opd0 opdI,
                ok_move rfl opd0, trivial⟩ (by kernel_rfl) ?_
            clear hAt
            intro a w hAt
            replace hAt : At B h0 (mkG [(28, fV r_i64 (IntKind.i64.wrap ((List.length s3 : Int) - 1))), (29, fV r_i64 (IntKind.i64.wrap (s4.2 + 1)))]) (mkO [(2, boxE 49 GRat.rep (⟨(⟨false, []⟩ : GInt), (⟨false, []⟩ : GInt)⟩ : GRat)), (4, arrE 49 GRat.rep (List.set s4.1 (Int.toNat s4.2) v8)), (6, boxE 49 GRat.rep v2)]) F 51 a w := hAt
            cases H
            exact ⟨rfl, hAt.pick [28, 29] [2, 4, 6]⟩
          · intro hb10
            have H := iteF hb10 H
            refine wp_exit ?_
            refine then_x ?_
            cases H
            exact ⟨ex_ne, rfl, hAt.pick [] [2, 4, 6]⟩
        · exact hAt.pick [28, 29] [2, 4, 6]
        · clear hAt
          intro e a w hp
          obtain ⟨rfl, hAt⟩ := hp
          refine blk_eq ?_
          refine blk_n ?_
          refine then_n ?_
          obtain ⟨v13, hv13, H⟩ := bindE H
          refine reg [⟨fCp 4, [], [], []⟩,
              ⟨fCp 4, [], [], []⟩,
              ⟨fV r_i64 (List.length o11 : Int), [], [(22, some 1)], [(4, none)]⟩,
              ⟨fV r_i64 (IntKind.i64.wrap ((List.length o11 : Int) - 1)), [], [(23, some 2)], []⟩,
              ⟨Fact.triv, [(4, none), (25, some (arrE 49 GRat.rep v13))], [(21, some 0), (24, some 3)], [(4, none)]⟩,
              ⟨Fact.triv, [(25, none), (4, some (arrE 49 GRat.rep v13))], [], [(25, some 4)]⟩] [] [2, 4, 6] hAt
              ⟨ok_cp rfl,
              ok_cp rfl,
              ok_lenArr un29 rfl opd0,
              ok_sub rfl opd0 opdI,
              ok_takeArr rfl hv13 un29 ty49 rfl rfl rfl opd0 opd1,
              (ok_moveOwn (f := Fact.triv) rfl rfl (.inr rfl) (fun _ _ _ => trivial)), trivial⟩ (by kernel_rfl) ?_
          clear hAt
          intro a w hAt
          replace hAt : At B h0 (mkG []) (mkO [(2, boxE 49 GRat.rep (⟨(⟨false, []⟩ : GInt), (⟨false, []⟩ : GInt)⟩ : GRat)), (4, arrE 49 GRat.rep v13), (6, boxE 49 GRat.rep v2)]) F 51 a w := hAt
          cases H
          exact ⟨rfl, hAt.pick [] [2, 4, 6]⟩
      · intro hb15
        have H := iteF hb15 H
        refine wp_exit ?_
        refine then_x ?_
        cases H
        exact ⟨ex_ne, rfl, hAt.pick [] [2, 4]⟩
    · exact hAt.pick [] [2, 4, 6]
    · clear hAt
      intro e a w hp
      obtain ⟨rfl, hAt⟩ := hp
      refine blk_eq ?_
      refine then_n ?_
      refine wp_seq ?_
      obtain ⟨v18, hv18, H⟩ := bindE H
      refine reg [⟨fCp 4, [], [], []⟩,
          ⟨fEl 4 ((Int.toNat 0) * GRat.rep.sz + 0), [], [(48, some 0)], [(4, none)]⟩,
          ⟨fV GRat.rep v18, [], [(49, some 1)], [(4, none)]⟩,
          ⟨Fact.triv, [(2, some (boxE 49 GRat.rep v18))], [(50, some 2)], [(2, none)]⟩,
          ⟨fV r_i64 0, [], [], []⟩] [3] [2] hAt
          ⟨ok_cp rfl,
          ok_elArr hv18 ty49 un29 rfl opd0 opdI,
          ok_loadArr (idx_spec hv18).2.2 (Lens.refl _) ty49 rfl opd0,
          ok_storeBox ty49 rfl rfl opd0,
          ok_assign rfl opdI, trivial⟩ (by kernel_rfl) ?_
      clear hAt
      intro a w hAt
      replace hAt : At B h0 (mkG [(3, fV r_i64 0)]) (mkO [(2, boxE 49 GRat.rep v18)]) F 51 a w := hAt
      refine then_n ?_
      refine wp_ret ?_
      cases H
      exact ret2 rfl (rv_cell ty49 rfl) (rv_tmp rfl rfl) hAt
theorem ok_f_survey_letter (N : Nat) (x0 : Int) (r : Bool) (H : f_survey_letter N x0 = some r) : FnOk Try.prog 109 [fV r_u8 x0] (fV Rep.bool r) := by
  unfold f_survey_letter at H
  refine fn_enter Try.func109 rfl rfl (by kernel_rfl) ?_
  intro κ B h0 F a w hAt
  refine wp_seq ?_
  refine reg [⟨fV Rep.bool false, [], [], []⟩] [0] [] hAt
      ⟨ok_assign rfl opdB, trivial⟩ (by kernel_rfl) ?_
  clear hAt
  intro a w hAt
  replace hAt : At B h0 (mkG [(0, fV r_u8 x0)]) (mkO []) F 17 a w := hAt
  refine then_n ?_
  refine wp_seq ?_
  refine reg [⟨fV r_u8 x0, [], [(0, none)], []⟩,
      ⟨fV Rep.bool (cmpI .geq x0 97), [], [(3, some 0)], []⟩,
      ⟨fV Rep.bool (cmpI .geq x0 97), [], [(4, some 1)], []⟩,
      ⟨Fact.when ((cmpI .geq x0 97) = true) (fV r_u8 x0), [], [(5, some 2), (0, none)], []⟩,
      ⟨Fact.when ((cmpI .geq x0 97) = true) (fV Rep.bool (cmpI .leq x0 122)), [], [(5, some 2), (6, some 3)], []⟩,
      ⟨fV Rep.bool ((cmpI .geq x0 97) && (cmpI .leq x0 122)), [], [(5, some 2), (7, some 4)], []⟩,
      ⟨fV Rep.bool ((cmpI .geq x0 97) && (cmpI .leq x0 122)), [], [(8, some 5)], []⟩,
      ⟨Fact.when ((!((cmpI .geq x0 97) && (cmpI .leq x0 122))) = true) (fV r_u8 x0), [], [(9, some 6), (0, none)], []⟩,
      ⟨Fact.when ((!((cmpI .geq x0 97) && (cmpI .leq x0 122))) = true) (fV Rep.bool (cmpI .geq x0 65)), [], [(9, some 6), (10, some 7)], []⟩,
      ⟨Fact.when ((!((cmpI .geq x0 97) && (cmpI .leq x0 122))) = true) (fV Rep.bool (cmpI .geq x0 65)), [], [(9, some 6), (11, some 8)], []⟩,
      ⟨Fact.when (((!((cmpI .geq x0 97) && (cmpI .leq x0 122))) && (cmpI .geq x0 65)) = true) (fV r_u8 x0), [], [(12, some 9), (0, none)], []⟩,
      ⟨Fact.when (((!((cmpI .geq x0 97) && (cmpI .leq x0 122))) && (cmpI .geq x0 65)) = true) (fV Rep.bool (cmpI .leq x0 90)), [], [(12, some 9), (13, some 10)], []⟩,
      ⟨Fact.when ((!((cmpI .geq x0 97) && (cmpI .leq x0 122))) = true) (fV Rep.bool ((cmpI .geq x0 65) && (cmpI .leq x0 90))), [], [(9, some 6), (12, some 9), (14, some 11)], []⟩,
      ⟨fV Rep.bool (((cmpI .geq x0 97) && (cmpI .leq x0 122)) || ((cmpI .geq x0 65) && (cmpI .leq x0 90))), [], [(9, some 6), (15, some 12)], []⟩,
      ⟨fV Rep.bool (((cmpI .geq x0 97) && (cmpI .leq x0 122)) || ((cmpI .geq x0 65) && (cmpI .leq x0 90))), [], [(16, some 13)], []⟩] [2] [] hAt
      ⟨ok_move rfl opd0,
      ok_cmp (op := .geq) (by simp) rfl rfl opd0 opdI,
      ok_move rfl opd0,
      obl_tt rfl rfl rfl rfl rfl rfl rfl (fun hg => ok_move rfl opd1),
      obl_tt rfl rfl rfl rfl rfl rfl rfl (fun hg => ok_cmp (op := .leq) (by simp) rfl rfl (opd1.on hg) opdI),
      ok_and rfl opd0 (fun e => (opd1.on e)),
      ok_move rfl opd0,
      obl_tf rfl rfl rfl rfl rfl rfl rfl (fun hg => ok_move rfl opd1),
      obl_tf rfl rfl rfl rfl rfl rfl rfl (fun hg => ok_cmp (op := .geq) (by simp) rfl rfl (opd1.on hg) opdI),
      obl_tf rfl rfl rfl rfl rfl rfl rfl (fun hg => ok_move rfl (opd1.on hg)),
      obl_wt rfl rfl rfl rfl rfl rfl rfl (fun hg => ok_move rfl opd1),
      obl_wt rfl rfl rfl rfl rfl rfl rfl (fun hg => ok_cmp (op := .leq) (by simp) rfl rfl (opd1.on hg) opdI),
      obl_tf rfl rfl rfl rfl rfl rfl rfl (fun hg => ok_and rfl (opd1.on hg) (fun e => (opd2.on (andT hg e)))),
      ok_or rfl opd0 (fun e => (opd1.on (notT e))),
      ok_assign rfl opd0, trivial⟩ (by kernel_rfl) ?_
  clear hAt
  intro a w hAt
  replace hAt : At B h0 (mkG [(2, fV Rep.bool (((cmpI .geq x0 97) && (cmpI .leq x0 122)) || ((cmpI .geq x0 65) && (cmpI .leq x0 90))))]) (mkO []) F 17 a w := hAt
  refine then_n ?_
  refine wp_ret ?_
  cases H
  exact ret1 rfl (rv_tmp rfl rfl) hAt
theorem ok_f_survey_name (N : Nat) (x0 : Str) (r : Bool) (H : f_survey_name N x0 = some r) : FnOk Try.prog 70 [fV Rep.str x0] (fV Rep.bool r) := by
  unfold f_survey_name at H
  refine fn_enter Try.func70 rfl rfl (by kernel_rfl) ?_
  intro κ B h0 F a w hAt
  refine wp_seq ?_
  refine reg [⟨fV Rep.bool false, [], [], []⟩] [0] [] hAt
      ⟨ok_assign rfl opdB, trivial⟩ (by kernel_rfl) ?_
  clear hAt
  intro a w hAt
  replace hAt : At B h0 (mkG [(0, fV Rep.str x0)]) (mkO []) F 43 a w := hAt
  refine then_n ?_
  refine wp_seq ?_
  refine wp_seq ?_
  obtain ⟨v1, hv1, H⟩ := bindE H
  obtain ⟨v2, hv2, H⟩ := bindE H
  refine reg [⟨fV Rep.str x0, [], [(0, none)], []⟩,
      ⟨fV r_i64 (List.length x0 : Int), [], [(5, some 0)], []⟩,
      ⟨fV Rep.bool (cmpI .lss (List.length x0 : Int) 1), [], [(6, some 1)], []⟩,
      ⟨fV Rep.bool (cmpI .lss (List.length x0 : Int) 1), [], [(7, some 2)], []⟩,
      ⟨Fact.when ((!(cmpI .lss (List.length x0 : Int) 1)) = true) (fV Rep.str x0), [], [(8, some 3), (0, none)], []⟩,
      ⟨Fact.when ((!(cmpI .lss (List.length x0 : Int) 1)) = true) (fV r_i64 (List.length x0 : Int)), [], [(8, some 3), (9, some 4)], []⟩,
      ⟨Fact.when ((!(cmpI .lss (List.length x0 : Int) 1)) = true) (fV Rep.bool (cmpI .gtr (List.length x0 : Int) 12)), [], [(8, some 3), (10, some 5)], []⟩,
      ⟨fV Rep.bool ((cmpI .lss (List.length x0 : Int) 1) || (cmpI .gtr (List.length x0 : Int) 12)), [], [(8, some 3), (11, some 6)], []⟩,
      ⟨fV Rep.bool ((cmpI .lss (List.length x0 : Int) 1) || (cmpI .gtr (List.length x0 : Int) 12)), [], [(12, some 7)], []⟩,
      ⟨Fact.when ((!((cmpI .lss (List.length x0 : Int) 1) || (cmpI .gtr (List.length x0 : Int) 12))) = true) (fV Rep.str x0), [], [(13, some 8), (0, none)], []⟩,
      ⟨Fact.when ((!((cmpI .lss (List.length x0 : Int) 1) || (cmpI .gtr (List.length x0 : Int) 12))) = true) (fV r_u8 ((UInt8.toNat v1 : Nat) : Int)), [], [(13, some 8), (14, some 9)], []⟩,
      ⟨Fact.when ((!((cmpI .lss (List.length x0 : Int) 1) || (cmpI .gtr (List.length x0 : Int) 12))) = true) (fV Rep.bool v2), [], [(13, some 8), (15, some 10)], []⟩,
      ⟨Fact.when ((!((cmpI .lss (List.length x0 : Int) 1) || (cmpI .gtr (List.length x0 : Int) 12))) = true) (fV Rep.bool (!v2)), [], [(13, some 8), (16, some 11)], []⟩,
      ⟨fV Rep.bool (((cmpI .lss (List.length x0 : Int) 1) || (cmpI .gtr (List.length x0 : Int) 12)) || (!v2)), [], [(13, some 8), (17, some 12)], []⟩] [0, 18] [] hAt
      ⟨ok_move rfl opd0,
      ok_lenS un9 rfl opd0,
      ok_cmp (op := .lss) (by simp) rfl rfl opd0 opdI,
      ok_move rfl opd0,
      obl_tf rfl rfl rfl rfl rfl rfl rfl (fun hg => ok_move rfl opd1),
      obl_tf rfl rfl rfl rfl rfl rfl rfl (fun hg => ok_lenS un9 rfl (opd1.on hg)),
      obl_tf rfl rfl rfl rfl rfl rfl rfl (fun hg => ok_cmp (op := .gtr) (by simp) rfl rfl (opd1.on hg) opdI),
      ok_or rfl opd0 (fun e => (opd1.on (notT e))),
      ok_move rfl opd0,
      obl_tf rfl rfl rfl rfl rfl rfl rfl (fun hg => ok_move rfl opd1),
      obl_tf rfl rfl rfl rfl rfl rfl rfl (fun hg => ok_indexS (iteT hg hv1) un9 rfl (opd1.on hg) opdI),
      obl_tf rfl rfl rfl rfl rfl rfl rfl (fun hg => ok_call (ok_f_survey_letter N ((UInt8.toNat v1 : Nat) : Int) _ (iteT hg hv2)) Try.func109 (by kernel_rfl) (by kernel_rfl) rfl ⟨(opd1.on hg), trivial⟩),
      obl_tf rfl rfl rfl rfl rfl rfl rfl (fun hg => ok_not rfl (opd1.on hg)),
      ok_or rfl opd0 (fun e => (opd1.on (notT e))), trivial⟩ (by kernel_rfl) ?_
  clear hAt
  intro a w hAt
  replace hAt : At B h0 (mkG [(0, fV Rep.str x0), (18, fV Rep.bool (((cmpI .lss (List.length x0 : Int) 1) || (cmpI .gtr (List.length x0 : Int) 12)) || (!v2)))]) (mkO []) F 43 a w := hAt
  refine then_n ?_
  refine wp_if hAt (by rfl) ?_ ?_
  · intro hb13
    have H := iteT hb13 H
    refine wp_seq ?_
    refine reg [⟨fV Rep.bool false, [], [], []⟩] [2] [] hAt
        ⟨ok_assign rfl opdB, trivial⟩ (by kernel_rfl) ?_
    clear hAt
    intro a w hAt
    replace hAt : At B h0 (mkG [(2, fV Rep.bool false)]) (mkO []) F 43 a w := hAt
    refine then_n ?_
    refine wp_ret ?_
    refine then_r ?_
    cases H
    exact ret1 rfl (rv_tmp rfl rfl) hAt
  · intro hb13
    have H := iteF hb13 H
    refine wp_skip ?_
    refine then_n ?_
    refine wp_seq ?_
    refine wp_seq ?_
    refine reg [⟨fV Rep.str x0, [], [(0, none)], []⟩,
        ⟨fV r_i64 (List.length x0 : Int), [], [(19, some 0)], []⟩,
        ⟨fV r_i64 0, [], [], []⟩] [0, 20, 21] [] hAt
        ⟨ok_move rfl opd0,
        ok_lenS un9 rfl opd0,
        ok_move rfl opdI, trivial⟩ (by kernel_rfl) ?_
    clear hAt
    intro a w hAt
    replace hAt : At B h0 (mkG [(0, fV Rep.str x0), (20, fV r_i64 (List.length x0 : Int)), (21, fV r_i64 0)]) (mkO []) F 43 a w := hAt
    refine then_n ?_
    refine wp_block ?_
    obtain ⟨o8, hl9, H⟩ := bindE H
    refine wp_mono (wp_loopN (f := f_survey_name_L1 N x0) (fun (s3 : Int) a w => At B h0 (mkG [(0, fV Rep.str x0), (20, fV r_i64 (List.length x0 : Int)), (21, fV r_i64 s3)]) (mkO []) F 43 a w) (fun o e a w => (Sum.elim (fun v => e = .exit 0 ∧ At B h0 (mkG []) (mkO []) F 43 a w) (fun v => e = .ret ∧ At B h0 (mkG [(2, fV Rep.bool v)]) (mkO []) F 43 a w)) o) ?_ N 0 o8 _ _ hl9 ?_) ?_
    · clear H hAt hl9
      intro s3 r12 a w H hAt
      unfold f_survey_name_L1 at H
      refine wp_seq ?_
      refine reg [⟨fV Rep.bool (cmpI .lss s3 (List.length x0 : Int)), [], [(21, none), (20, none)], []⟩] [0, 20, 21, 22] [] hAt
          ⟨ok_cmp (op := .lss) (by simp) rfl rfl opd0 opd1, trivial⟩ (by kernel_rfl) ?_
      clear hAt
      intro a w hAt
      replace hAt : At B h0 (mkG [(0, fV Rep.str x0), (20, fV r_i64 (List.length x0 : Int)), (21, fV r_i64 s3), (22, fV Rep.bool (cmpI .lss s3 (List.length x0 : Int)))]) (mkO []) F 43 a w := hAt
      refine then_n ?_
      refine wp_seq ?_
      refine wp_if hAt (by rfl) ?_ ?_
      · intro hb7
        have H := iteT hb7 H
        refine wp_skip ?_
        refine then_n ?_
        refine wp_seq ?_
        refine wp_block ?_
        refine wp_seq ?_
        refine reg [⟨fV r_i64 s3, [], [(21, none)], []⟩,
            ⟨fV r_i64 s3, [], [(23, some 0)], []⟩] [0, 3, 20, 21] [] hAt
            ⟨ok_move rfl opd0,
            ok_assign rfl opd0, trivial⟩ (by kernel_rfl) ?_
        clear hAt
        intro a w hAt
        replace hAt : At B h0 (mkG [(0, fV Rep.str x0), (3, fV r_i64 s3), (20, fV r_i64 (List.length x0 : Int)), (21, fV r_i64 s3)]) (mkO []) F 43 a w := hAt
        refine then_n ?_
        refine wp_seq ?_
        obtain ⟨v4, hv4, H⟩ := bindE H
        refine reg [⟨fV Rep.str x0, [], [(0, none)], []⟩,
            ⟨fV r_i64 s3, [], [(3, none)], []⟩,
            ⟨fV r_u8 ((UInt8.toNat v4 : Nat) : Int), [], [(24, some 0), (25, some 1)], []⟩,
            ⟨fV r_u8 ((UInt8.toNat v4 : Nat) : Int), [], [(26, some 2)], []⟩] [0, 4, 20, 21] [] hAt
            ⟨ok_move rfl opd0,
            ok_move rfl opd0,
            ok_indexS hv4 un9 rfl opd0 opd1,
            ok_assign rfl opd0, trivial⟩ (by kernel_rfl) ?_
        clear hAt
        intro a w hAt
        replace hAt : At B h0 (mkG [(0, fV Rep.str x0), (4, fV r_u8 ((UInt8.toNat v4 : Nat) : Int)), (20, fV r_i64 (List.length x0 : Int)), (21, fV r_i64 s3)]) (mkO []) F 43 a w := hAt
        refine then_n ?_
        refine wp_seq ?_
        obtain ⟨v5, hv5, H⟩ := bindE H
        refine reg [⟨fV r_u8 ((UInt8.toNat v4 : Nat) : Int), [], [(4, none)], []⟩,
            ⟨fV Rep.bool v5, [], [(27, some 0)], []⟩,
            ⟨fV Rep.bool (!v5), [], [(28, some 1)], []⟩,
            ⟨fV Rep.bool (!v5), [], [(29, some 2)], []⟩,
            ⟨Fact.when ((!v5) = true) (fV r_u8 ((UInt8.toNat v4 : Nat) : Int)), [], [(30, some 3), (4, none)], []⟩,
            ⟨Fact.when ((!v5) = true) (fV Rep.bool (cmpI .neq ((UInt8.toNat v4 : Nat) : Int) 45)), [], [(30, some 3), (31, some 4)], []⟩,
            ⟨fV Rep.bool ((!v5) && (cmpI .neq ((UInt8.toNat v4 : Nat) : Int) 45)), [], [(30, some 3), (32, some 5)], []⟩,
            ⟨fV Rep.bool ((!v5) && (cmpI .neq ((UInt8.toNat v4 : Nat) : Int) 45)), [], [(33, some 6)], []⟩,
            ⟨Fact.when (((!v5) && (cmpI .neq ((UInt8.toNat v4 : Nat) : Int) 45)) = true) (fV r_u8 ((UInt8.toNat v4 : Nat) : Int)), [], [(34, some 7), (4, none)], []⟩,
            ⟨Fact.when (((!v5) && (cmpI .neq ((UInt8.toNat v4 : Nat) : Int) 45)) = true) (fV Rep.bool (cmpI .lss ((UInt8.toNat v4 : Nat) : Int) 48)), [], [(34, some 7), (35, some 8)], []⟩,
            ⟨Fact.when (((!v5) && (cmpI .neq ((UInt8.toNat v4 : Nat) : Int) 45)) = true) (fV Rep.bool (cmpI .lss ((UInt8.toNat v4 : Nat) : Int) 48)), [], [(34, some 7), (36, some 9)], []⟩,
            ⟨Fact.when ((((!v5) && (cmpI .neq ((UInt8.toNat v4 : Nat) : Int) 45)) && (!(cmpI .lss ((UInt8.toNat v4 : Nat) : Int) 48))) = true) (fV r_u8 ((UInt8.toNat v4 : Nat) : Int)), [], [(37, some 10), (4, none)], []⟩,
            ⟨Fact.when ((((!v5) && (cmpI .neq ((UInt8.toNat v4 : Nat) : Int) 45)) && (!(cmpI .lss ((UInt8.toNat v4 : Nat) : Int) 48))) = true) (fV Rep.bool (cmpI .gtr ((UInt8.toNat v4 : Nat) : Int) 57)), [], [(37, some 10), (38, some 11)], []⟩,
            ⟨Fact.when (((!v5) && (cmpI .neq ((UInt8.toNat v4 : Nat) : Int) 45)) = true) (fV Rep.bool ((cmpI .lss ((UInt8.toNat v4 : Nat) : Int) 48) || (cmpI .gtr ((UInt8.toNat v4 : Nat) : Int) 57))), [], [(34, some 7), (37, some 10), (39, some 12)], []⟩,
            ⟨fV Rep.bool (((!v5) && (cmpI .neq ((UInt8.toNat v4 : Nat) : Int) 45)) && ((cmpI .lss ((UInt8.toNat v4 : Nat) : Int) 48) || (cmpI .gtr ((UInt8.toNat v4 : Nat) : Int) 57))), [], [(34, some 7), (40, some 13)], []⟩] [0, 20, 21, 41] [] hAt
            ⟨ok_move rfl opd0,
            ok_call (ok_f_survey_letter N ((UInt8.toNat v4 : Nat) : Int) _ hv5) Try.func109 (by kernel_rfl) (by kernel_rfl) rfl ⟨opd0, trivial⟩,
            ok_not rfl opd0,
            ok_move rfl opd0,
            obl_tt rfl rfl rfl rfl rfl rfl rfl (fun hg => ok_move rfl opd1),
            obl_tt rfl rfl rfl rfl rfl rfl rfl (fun hg => ok_cmp (op := .neq) (by simp) rfl rfl (opd1.on hg) opdI),
            ok_and rfl opd0 (fun e => (opd1.on e)),
            ok_move rfl opd0,
            obl_tt rfl rfl rfl rfl rfl rfl rfl (fun hg => ok_move rfl opd1),
            obl_tt rfl rfl rfl rfl rfl rfl rfl (fun hg => ok_cmp (op := .lss) (by simp) rfl rfl (opd1.on hg) opdI),
            obl_tt rfl rfl rfl rfl rfl rfl rfl (fun hg => ok_move rfl (opd1.on hg)),
            obl_wf rfl rfl rfl rfl rfl rfl rfl (fun hg => ok_move rfl opd1),
            obl_wf rfl rfl rfl rfl rfl rfl rfl (fun hg => ok_cmp (op := .gtr) (by simp) rfl rfl (opd1.on hg) opdI),
            obl_tt rfl rfl rfl rfl rfl rfl rfl (fun hg => ok_or rfl (opd1.on hg) (fun e => (opd2.on (andT hg (notT e))))),
            ok_and rfl opd0 (fun e => (opd1.on e)), trivial⟩ (by kernel_rfl) ?_
        clear hAt
        intro a w hAt
        replace hAt : At B h0 (mkG [(0, fV Rep.str x0), (20, fV r_i64 (List.length x0 : Int)), (21, fV r_i64 s3), (41, fV Rep.bool (((!v5) && (cmpI .neq ((UInt8.toNat v4 : Nat) : Int) 45)) && ((cmpI .lss ((UInt8.toNat v4 : Nat) : Int) 48) || (cmpI .gtr ((UInt8.toNat v4 : Nat) : Int) 57))))]) (mkO []) F 43 a w := hAt
        refine then_n ?_
        refine wp_if hAt (by rfl) ?_ ?_
        · intro hb6
          have H := iteT hb6 H
          refine wp_seq ?_
          refine reg [⟨fV Rep.bool false, [], [], []⟩] [2] [] hAt
              ⟨ok_assign rfl opdB, trivial⟩ (by kernel_rfl) ?_
          clear hAt
          intro a w hAt
          replace hAt : At B h0 (mkG [(2, fV Rep.bool false)]) (mkO []) F 43 a w := hAt
          refine then_n ?_
          refine wp_ret ?_
          refine blk_r ?_
          refine then_r ?_
          cases H
          exact ⟨ret_ne, rfl, hAt.pick [2] []⟩
        · intro hb6
          have H := iteF hb6 H
          refine wp_skip ?_
          refine blk_n ?_
          refine then_n ?_
          refine reg [⟨fV r_i64 (IntKind.i64.wrap (s3 + 1)), [], [(21, none)], []⟩,
              ⟨fV r_i64 (IntKind.i64.wrap (s3 + 1)), [], [(42, some 0)], []⟩] [0, 20, 21] [] hAt
              ⟨ok_add rfl opd0 opdI,
              ok_move rfl opd0, trivial⟩ (by kernel_rfl) ?_
          clear hAt
          intro a w hAt
          replace hAt : At B h0 (mkG [(0, fV Rep.str x0), (20, fV r_i64 (List.length x0 : Int)), (21, fV r_i64 (IntKind.i64.wrap (s3 + 1)))]) (mkO []) F 43 a w := hAt
          cases H
          exact ⟨rfl, hAt.pick [0, 20, 21] []⟩
      · intro hb7
        have H := iteF hb7 H
        refine wp_exit ?_
        refine then_x ?_
        cases H
        exact ⟨ex_ne, rfl, hAt.pick [] []⟩
    · exact hAt.pick [0, 20, 21] []
    · clear hAt
      intro e a w hp
      cases o8 with
      | inl l10 =>
        rw [Sum.elim_inl] at H
        obtain ⟨rfl, hAt⟩ := hp
        refine blk_eq ?_
        refine then_n ?_
        refine wp_seq ?_
        refine reg [⟨fV Rep.bool true, [], [], []⟩] [2] [] hAt
            ⟨ok_assign rfl opdB, trivial⟩ (by kernel_rfl) ?_
        clear hAt
        intro a w hAt
        replace hAt : At B h0 (mkG [(2, fV Rep.bool true)]) (mkO []) F 43 a w := hAt
        refine then_n ?_
        refine wp_ret ?_
        cases H
        exact ret1 rfl (rv_tmp rfl rfl) hAt
      | inr r11 =>
        rw [Sum.elim_inr] at H
        replace hp := hp
        obtain ⟨rfl, hAt⟩ := hp
        refine blk_r ?_
        refine then_r ?_
        cases H
        exact ret1 rfl (rv_tmp rfl rfl) hAt
theorem ok_f_survey_CheckPanel (N : Nat) (x0 : GPanel) (r : Int) (H : f_survey_CheckPanel N x0 = some r) : FnOk Try.prog 19 [fV GPanel.rep x0] (fV r_i64 r) := by
  unfold f_survey_CheckPanel at H
  refine fn_enter Try.func19 rfl rfl (by kernel_rfl) ?_
  intro κ B h0 F a w hAt
  refine wp_seq ?_
  refine reg [⟨fRef GPanel.rep x0, [], [(0, none)], []⟩,
      ⟨fV r_i64 0, [], [], []⟩] [1] [] hAt
      ⟨ok_box rfl opd0,
      ok_assign rfl opdI, trivial⟩ (by kernel_rfl) ?_
  clear hAt
  intro a w hAt
  replace hAt : At B h0 (mkG [(1, fRef GPanel.rep x0)]) (mkO []) F 56 a w := hAt
  refine then_n ?_
  refine wp_seq ?_
  refine wp_block ?_
  refine wp_seq ?_
  obtain ⟨v1, hv1, H⟩ := bindE H
  refine reg [⟨fRef Rep.str x0.Name, [], [(1, none)], []⟩,
      ⟨fV Rep.str x0.Name, [], [(4, some 0)], []⟩,
      ⟨fV Rep.bool v1, [], [(5, some 1)], []⟩,
      ⟨fV Rep.bool (!v1), [], [(6, some 2)], []⟩,
      ⟨fV Rep.bool (!v1), [], [(7, some 3)], []⟩] [1, 3] [] hAt
      ⟨ok_field GPanel.l0 fo24_0 rfl opd0,
      ok_load ty9 rfl opd0,
      ok_call (ok_f_survey_name N x0.Name _ hv1) Try.func70 (by kernel_rfl) (by kernel_rfl) rfl ⟨opd0, trivial⟩,
      ok_not rfl opd0,
      ok_assign rfl opd0, trivial⟩ (by kernel_rfl) ?_
  clear hAt
  intro a w hAt
  replace hAt : At B h0 (mkG [(1, fRef GPanel.rep x0), (3, fV Rep.bool (!v1))]) (mkO []) F 56 a w := hAt
  refine then_n ?_
  refine wp_if hAt (by rfl) ?_ ?_
  · intro hb8
    have H := iteT hb8 H
    refine wp_seq ?_
    refine reg [⟨fV r_i64 4, [], [], []⟩] [2] [] hAt
        ⟨ok_assign rfl opdI, trivial⟩ (by kernel_rfl) ?_
    clear hAt
    intro a w hAt
    replace hAt : At B h0 (mkG [(2, fV r_i64 4)]) (mkO []) F 56 a w := hAt
    refine then_n ?_
    refine wp_ret ?_
    refine blk_r ?_
    refine then_r ?_
    cases H
    exact ret1 rfl (rv_tmp rfl rfl) hAt
  · intro hb8
    have H := iteF hb8 H
    refine wp_seq ?_
    obtain ⟨v2, hv2, H⟩ := bindE H
    refine reg [⟨fRef r_i64 x0.Rows, [], [(1, none)], []⟩,
        ⟨fV r_i64 x0.Rows, [], [(9, some 0)], []⟩,
        ⟨fV Rep.bool (cmpI .lss x0.Rows 1), [], [(10, some 1)], []⟩,
        ⟨fV Rep.bool (cmpI .lss x0.Rows 1), [], [(11, some 2)], []⟩,
        ⟨Fact.when ((!(cmpI .lss x0.Rows 1)) = true) (fRef r_i64 x0.Cols), [], [(12, some 3), (1, none)], []⟩,
        ⟨Fact.when ((!(cmpI .lss x0.Rows 1)) = true) (fV r_i64 x0.Cols), [], [(12, some 3), (13, some 4)], []⟩,
        ⟨Fact.when ((!(cmpI .lss x0.Rows 1)) = true) (fV Rep.bool (cmpI .lss x0.Cols 1)), [], [(12, some 3), (14, some 5)], []⟩,
        ⟨fV Rep.bool ((cmpI .lss x0.Rows 1) || (cmpI .lss x0.Cols 1)), [], [(12, some 3), (15, some 6)], []⟩,
        ⟨fV Rep.bool ((cmpI .lss x0.Rows 1) || (cmpI .lss x0.Cols 1)), [], [(16, some 7)], []⟩,
        ⟨Fact.when ((!((cmpI .lss x0.Rows 1) || (cmpI .lss x0.Cols 1))) = true) (fRef r_i64 x0.Built), [], [(17, some 8), (1, none)], []⟩,
        ⟨Fact.when ((!((cmpI .lss x0.Rows 1) || (cmpI .lss x0.Cols 1))) = true) (fV r_i64 x0.Built), [], [(17, some 8), (18, some 9)], []⟩,
        ⟨Fact.when ((!((cmpI .lss x0.Rows 1) || (cmpI .lss x0.Cols 1))) = true) (fV (Rep.slice r_i64) [x0.Built]), [], [(17, some 8), (19, some 10)], []⟩,
        ⟨Fact.when ((!((cmpI .lss x0.Rows 1) || (cmpI .lss x0.Cols 1))) = true) (fV Rep.bool v2), [], [(17, some 8), (20, some 11)], []⟩,
        ⟨Fact.when ((!((cmpI .lss x0.Rows 1) || (cmpI .lss x0.Cols 1))) = true) (fV Rep.bool (!v2)), [], [(17, some 8), (21, some 12)], []⟩,
        ⟨fV Rep.bool (((cmpI .lss x0.Rows 1) || (cmpI .lss x0.Cols 1)) || (!v2)), [], [(17, some 8), (22, some 13)], []⟩,
        ⟨fV Rep.bool (((cmpI .lss x0.Rows 1) || (cmpI .lss x0.Cols 1)) || (!v2)), [], [(23, some 14)], []⟩] [1, 8] [] hAt
        ⟨ok_field GPanel.l1 fo24_1 rfl opd0,
        ok_load ty3 rfl opd0,
        ok_cmp (op := .lss) (by simp) rfl rfl opd0 opdI,
        ok_move rfl opd0,
        obl_tf rfl rfl rfl rfl rfl rfl rfl (fun hg => ok_field GPanel.l2 fo24_2 rfl opd1),
        obl_tf rfl rfl rfl rfl rfl rfl rfl (fun hg => ok_load ty3 rfl (opd1.on hg)),
        obl_tf rfl rfl rfl rfl rfl rfl rfl (fun hg => ok_cmp (op := .lss) (by simp) rfl rfl (opd1.on hg) opdI),
        ok_or rfl opd0 (fun e => (opd1.on (notT e))),
        ok_move rfl opd0,
        obl_tf rfl rfl rfl rfl rfl rfl rfl (fun hg => ok_field GPanel.l3 fo24_3 rfl opd1),
        obl_tf rfl rfl rfl rfl rfl rfl rfl (fun hg => ok_load ty3 rfl (opd1.on hg)),
        obl_tf rfl rfl rfl rfl rfl rfl rfl (fun hg => ok_buildSlice ty3 un22 rfl rfl (fillC (Lens.arr _ _ 0 (by decide)) rfl (opd1.on hg) fillN)),
        obl_tf rfl rfl rfl rfl rfl rfl rfl (fun hg => ok_call (ok_f_survey_inside N 100 20000 [x0.Built] _ (iteT hg hv2)) Try.func71 (by kernel_rfl) (by kernel_rfl) rfl ⟨opdI, ⟨opdI, ⟨(opd1.on hg), trivial⟩⟩⟩),
        obl_tf rfl rfl rfl rfl rfl rfl rfl (fun hg => ok_not rfl (opd1.on hg)),
        ok_or rfl opd0 (fun e => (opd1.on (notT e))),
        ok_assign rfl opd0, trivial⟩ (by kernel_rfl) ?_
    clear hAt
    intro a w hAt
    replace hAt : At B h0 (mkG [(1, fRef GPanel.rep x0), (8, fV Rep.bool (((cmpI .lss x0.Rows 1) || (cmpI .lss x0.Cols 1)) || (!v2)))]) (mkO []) F 56 a w := hAt
    refine then_n ?_
    refine wp_if hAt (by rfl) ?_ ?_
    · intro hb7
      have H := iteT hb7 H
      refine wp_seq ?_
      refine reg [⟨fV r_i64 2, [], [], []⟩] [2] [] hAt
          ⟨ok_assign rfl opdI, trivial⟩ (by kernel_rfl) ?_
      clear hAt
      intro a w hAt
      replace hAt : At B h0 (mkG [(2, fV r_i64 2)]) (mkO []) F 56 a w := hAt
      refine then_n ?_
      refine wp_ret ?_
      refine blk_r ?_
      refine then_r ?_
      cases H
      exact ret1 rfl (rv_tmp rfl rfl) hAt
    · intro hb7
      have H := iteF hb7 H
      refine wp_seq ?_
      refine reg [⟨fRef r_i64 x0.Rows, [], [(1, none)], []⟩,
          ⟨fV r_i64 x0.Rows, [], [(25, some 0)], []⟩,
          ⟨fV Rep.bool (cmpI .gtr x0.Rows 400), [], [(26, some 1)], []⟩,
          ⟨fV Rep.bool (cmpI .gtr x0.Rows 400), [], [(27, some 2)], []⟩,
          ⟨Fact.when ((!(cmpI .gtr x0.Rows 400)) = true) (fRef r_i64 x0.Cols), [], [(28, some 3), (1, none)], []⟩,
          ⟨Fact.when ((!(cmpI .gtr x0.Rows 400)) = true) (fV r_i64 x0.Cols), [], [(28, some 3), (29, some 4)], []⟩,
          ⟨Fact.when ((!(cmpI .gtr x0.Rows 400)) = true) (fV Rep.bool (cmpI .gtr x0.Cols 400)), [], [(28, some 3), (30, some 5)], []⟩,
          ⟨fV Rep.bool ((cmpI .gtr x0.Rows 400) || (cmpI .gtr x0.Cols 400)), [], [(28, some 3), (31, some 6)], []⟩,
          ⟨fV Rep.bool ((cmpI .gtr x0.Rows 400) || (cmpI .gtr x0.Cols 400)), [], [(32, some 7)], []⟩,
          ⟨Fact.when ((!((cmpI .gtr x0.Rows 400) || (cmpI .gtr x0.Cols 400))) = true) (fRef r_i64 x0.Rows), [], [(33, some 8), (1, none)], []⟩,
          ⟨Fact.when ((!((cmpI .gtr x0.Rows 400) || (cmpI .gtr x0.Cols 400))) = true) (fV r_i64 x0.Rows), [], [(33, some 8), (34, some 9)], []⟩,
          ⟨Fact.when ((!((cmpI .gtr x0.Rows 400) || (cmpI .gtr x0.Cols 400))) = true) (fRef r_i64 x0.Cols), [], [(33, some 8), (1, none)], []⟩,
          ⟨Fact.when ((!((cmpI .gtr x0.Rows 400) || (cmpI .gtr x0.Cols 400))) = true) (fV r_i64 x0.Cols), [], [(33, some 8), (36, some 11)], []⟩,
          ⟨Fact.when ((!((cmpI .gtr x0.Rows 400) || (cmpI .gtr x0.Cols 400))) = true) (fV r_i64 (IntKind.i64.wrap (x0.Rows * x0.Cols))), [], [(33, some 8), (35, some 10), (37, some 12)], []⟩,
          ⟨Fact.when ((!((cmpI .gtr x0.Rows 400) || (cmpI .gtr x0.Cols 400))) = true) (fV Rep.bool (cmpI .gtr (IntKind.i64.wrap (x0.Rows * x0.Cols)) 400)), [], [(33, some 8), (38, some 13)], []⟩,
          ⟨fV Rep.bool (((cmpI .gtr x0.Rows 400) || (cmpI .gtr x0.Cols 400)) || (cmpI .gtr (IntKind.i64.wrap (x0.Rows * x0.Cols)) 400)), [], [(33, some 8), (39, some 14)], []⟩,
          ⟨fV Rep.bool (((cmpI .gtr x0.Rows 400) || (cmpI .gtr x0.Cols 400)) || (cmpI .gtr (IntKind.i64.wrap (x0.Rows * x0.Cols)) 400)), [], [(40, some 15)], []⟩] [1, 24] [] hAt
          ⟨ok_field GPanel.l1 fo24_1 rfl opd0,
          ok_load ty3 rfl opd0,
          ok_cmp (op := .gtr) (by simp) rfl rfl opd0 opdI,
          ok_move rfl opd0,
          obl_tf rfl rfl rfl rfl rfl rfl rfl (fun hg => ok_field GPanel.l2 fo24_2 rfl opd1),
          obl_tf rfl rfl rfl rfl rfl rfl rfl (fun hg => ok_load ty3 rfl (opd1.on hg)),
          obl_tf rfl rfl rfl rfl rfl rfl rfl (fun hg => ok_cmp (op := .gtr) (by simp) rfl rfl (opd1.on hg) opdI),
          ok_or rfl opd0 (fun e => (opd1.on (notT e))),
          ok_move rfl opd0,
          obl_tf rfl rfl rfl rfl rfl rfl rfl (fun hg => ok_field GPanel.l1 fo24_1 rfl opd1),
          obl_tf rfl rfl rfl rfl rfl rfl rfl (fun hg => ok_load ty3 rfl (opd1.on hg)),
          obl_tf rfl rfl rfl rfl rfl rfl rfl (fun hg => ok_field GPanel.l2 fo24_2 rfl opd1),
          obl_tf rfl rfl rfl rfl rfl rfl rfl (fun hg => ok_load ty3 rfl (opd1.on hg)),
          obl_tf rfl rfl rfl rfl rfl rfl rfl (fun hg => ok_mul rfl (opd1.on hg) (opd2.on hg)),
          obl_tf rfl rfl rfl rfl rfl rfl rfl (fun hg => ok_cmp (op := .gtr) (by simp) rfl rfl (opd1.on hg) opdI),
          ok_or rfl opd0 (fun e => (opd1.on (notT e))),
          ok_assign rfl opd0, trivial⟩ (by kernel_rfl) ?_
      clear hAt
      intro a w hAt
      replace hAt : At B h0 (mkG [(1, fRef GPanel.rep x0), (24, fV Rep.bool (((cmpI .gtr x0.Rows 400) || (cmpI .gtr x0.Cols 400)) || (cmpI .gtr (IntKind.i64.wrap (x0.Rows * x0.Cols)) 400)))]) (mkO []) F 56 a w := hAt
      refine then_n ?_
      refine wp_if hAt (by rfl) ?_ ?_
      · intro hb6
        have H := iteT hb6 H
        refine wp_seq ?_
        refine reg [⟨fV r_i64 8, [], [], []⟩] [2] [] hAt
            ⟨ok_assign rfl opdI, trivial⟩ (by kernel_rfl) ?_
        clear hAt
        intro a w hAt
        replace hAt : At B h0 (mkG [(2, fV r_i64 8)]) (mkO []) F 56 a w := hAt
        refine then_n ?_
        refine wp_ret ?_
        refine blk_r ?_
        refine then_r ?_
        cases H
        exact ret1 rfl (rv_tmp rfl rfl) hAt
      · intro hb6
        have H := iteF hb6 H
        refine wp_seq ?_
        refine reg [⟨fRef (Rep.slice r_i64) x0.Readings, [], [(1, none)], []⟩,
            ⟨fV (Rep.slice r_i64) x0.Readings, [], [(42, some 0)], []⟩,
            ⟨fV r_i64 (List.length x0.Readings : Int), [], [(43, some 1)], []⟩,
            ⟨fRef r_i64 x0.Rows, [], [(1, none)], []⟩,
            ⟨fV r_i64 x0.Rows, [], [(45, some 3)], []⟩,
            ⟨fRef r_i64 x0.Cols, [], [(1, none)], []⟩,
            ⟨fV r_i64 x0.Cols, [], [(47, some 5)], []⟩,
            ⟨fV r_i64 (IntKind.i64.wrap (x0.Rows * x0.Cols)), [], [(46, some 4), (48, some 6)], []⟩,
            ⟨fV Rep.bool (cmpI .neq (List.length x0.Readings : Int) (IntKind.i64.wrap (x0.Rows * x0.Cols))), [], [(44, some 2), (49, some 7)], []⟩,
            ⟨fV Rep.bool (cmpI .neq (List.length x0.Readings : Int) (IntKind.i64.wrap (x0.Rows * x0.Cols))), [], [(50, some 8)], []⟩] [1, 41] [] hAt
            ⟨ok_field GPanel.l4 fo24_4 rfl opd0,
            ok_load ty22 rfl opd0,
            ok_len un22 rfl opd0,
            ok_field GPanel.l1 fo24_1 rfl opd0,
            ok_load ty3 rfl opd0,
            ok_field GPanel.l2 fo24_2 rfl opd0,
            ok_load ty3 rfl opd0,
            ok_mul rfl opd0 opd1,
            ok_cmp (op := .neq) (by simp) rfl rfl opd0 opd1,
            ok_assign rfl opd0, trivial⟩ (by kernel_rfl) ?_
        clear hAt
        intro a w hAt
        replace hAt : At B h0 (mkG [(1, fRef GPanel.rep x0), (41, fV Rep.bool (cmpI .neq (List.length x0.Readings : Int) (IntKind.i64.wrap (x0.Rows * x0.Cols))))]) (mkO []) F 56 a w := hAt
        refine then_n ?_
        refine wp_if hAt (by rfl) ?_ ?_
        · intro hb5
          have H := iteT hb5 H
          refine wp_seq ?_
          refine reg [⟨fV r_i64 11, [], [], []⟩] [2] [] hAt
              ⟨ok_assign rfl opdI, trivial⟩ (by kernel_rfl) ?_
          clear hAt
          intro a w hAt
          replace hAt : At B h0 (mkG [(2, fV r_i64 11)]) (mkO []) F 56 a w := hAt
          refine then_n ?_
          refine wp_ret ?_
          refine blk_r ?_
          refine then_r ?_
          cases H
          exact ret1 rfl (rv_tmp rfl rfl) hAt
        · intro hb5
          have H := iteF hb5 H
          refine wp_seq ?_
          obtain ⟨v3, hv3, H⟩ := bindE H
          refine reg [⟨fRef (Rep.slice r_i64) x0.Readings, [], [(1, none)], []⟩,
              ⟨fV (Rep.slice r_i64) x0.Readings, [], [(52, some 0)], []⟩,
              ⟨fV Rep.bool v3, [], [(53, some 1)], []⟩,
              ⟨fV Rep.bool (!v3), [], [(54, some 2)], []⟩,
              ⟨fV Rep.bool (!v3), [], [(55, some 3)], []⟩] [51] [] hAt
              ⟨ok_field GPanel.l4 fo24_4 rfl opd0,
              ok_load ty22 rfl opd0,
              ok_call (ok_f_survey_inside N 0 20000 x0.Readings _ hv3) Try.func71 (by kernel_rfl) (by kernel_rfl) rfl ⟨opdI, ⟨opdI, ⟨opd0, trivial⟩⟩⟩,
              ok_not rfl opd0,
              ok_assign rfl opd0, trivial⟩ (by kernel_rfl) ?_
          clear hAt
          intro a w hAt
          replace hAt : At B h0 (mkG [(51, fV Rep.bool (!v3))]) (mkO []) F 56 a w := hAt
          refine then_n ?_
          refine wp_if hAt (by rfl) ?_ ?_
          · intro hb4
            have H := iteT hb4 H
            refine wp_seq ?_
            refine reg [⟨fV r_i64 2, [], [], []⟩] [2] [] hAt
                ⟨ok_assign rfl opdI, trivial⟩ (by kernel_rfl) ?_
            clear hAt
            intro a w hAt
            replace hAt : At B h0 (mkG [(2, fV r_i64 2)]) (mkO []) F 56 a w := hAt
            refine then_n ?_
            refine wp_ret ?_
            refine blk_r ?_
            refine then_r ?_
            cases H
            exact ret1 rfl (rv_tmp rfl rfl) hAt
          · intro hb4
            have H := iteF hb4 H
            refine wp_skip ?_
            refine blk_n ?_
            refine then_n ?_
            refine wp_seq ?_
            refine reg [⟨fV r_i64 0, [], [], []⟩] [2] [] hAt
                ⟨ok_assign rfl opdI, trivial⟩ (by kernel_rfl) ?_
            clear hAt
            intro a w hAt
            replace hAt : At B h0 (mkG [(2, fV r_i64 0)]) (mkO []) F 56 a w := hAt
            refine then_n ?_
            refine wp_ret ?_
            cases H
            exact ret1 rfl (rv_tmp rfl rfl) hAt
theorem ok_f_survey_checkRule (N : Nat) (x0 : GRule) (r : Int) (H : f_survey_checkRule N x0 = some r) : FnOk Try.prog 66 [fV GRule.rep x0] (fV r_i64 r) := by
  unfold f_survey_checkRule at H
  refine fn_enter Try.func66 rfl rfl (by kernel_rfl) ?_
  intro κ B h0 F a w hAt
  refine wp_seq ?_
  refine reg [⟨fRef GRule.rep x0, [], [(0, none)], []⟩,
      ⟨fV r_i64 0, [], [], []⟩] [1] [] hAt
      ⟨ok_box rfl opd0,
      ok_assign rfl opdI, trivial⟩ (by kernel_rfl) ?_
  clear hAt
  intro a w hAt
  replace hAt : At B h0 (mkG [(1, fRef GRule.rep x0)]) (mkO []) F 18 a w := hAt
  refine then_n ?_
  refine wp_seq ?_
  refine wp_seq ?_
  refine reg [⟨fRef r_i64 x0.Substantial, [], [(1, none)], []⟩,
      ⟨fV r_i64 x0.Substantial, [], [(3, some 0)], []⟩,
      ⟨fV Rep.bool (cmpI .lss x0.Substantial 0), [], [(4, some 1)], []⟩,
      ⟨fV Rep.bool (cmpI .lss x0.Substantial 0), [], [(5, some 2)], []⟩,
      ⟨Fact.when ((!(cmpI .lss x0.Substantial 0)) = true) (fRef r_i64 x0.Substantial), [], [(6, some 3), (1, none)], []⟩,
      ⟨Fact.when ((!(cmpI .lss x0.Substantial 0)) = true) (fV r_i64 x0.Substantial), [], [(6, some 3), (7, some 4)], []⟩,
      ⟨Fact.when ((!(cmpI .lss x0.Substantial 0)) = true) (fRef r_i64 x0.Renew), [], [(6, some 3), (1, none)], []⟩,
      ⟨Fact.when ((!(cmpI .lss x0.Substantial 0)) = true) (fV r_i64 x0.Renew), [], [(6, some 3), (9, some 6)], []⟩,
      ⟨Fact.when ((!(cmpI .lss x0.Substantial 0)) = true) (fV Rep.bool (cmpI .gtr x0.Substantial x0.Renew)), [], [(6, some 3), (8, some 5), (10, some 7)], []⟩,
      ⟨fV Rep.bool ((cmpI .lss x0.Substantial 0) || (cmpI .gtr x0.Substantial x0.Renew)), [], [(6, some 3), (11, some 8)], []⟩,
      ⟨fV Rep.bool ((cmpI .lss x0.Substantial 0) || (cmpI .gtr x0.Substantial x0.Renew)), [], [(12, some 9)], []⟩,
      ⟨Fact.when ((!((cmpI .lss x0.Substantial 0) || (cmpI .gtr x0.Substantial x0.Renew))) = true) (fRef r_i64 x0.Renew), [], [(13, some 10), (1, none)], []⟩,
      ⟨Fact.when ((!((cmpI .lss x0.Substantial 0) || (cmpI .gtr x0.Substantial x0.Renew))) = true) (fV r_i64 x0.Renew), [], [(13, some 10), (14, some 11)], []⟩,
      ⟨Fact.when ((!((cmpI .lss x0.Substantial 0) || (cmpI .gtr x0.Substantial x0.Renew))) = true) (fV Rep.bool (cmpI .gtr x0.Renew 1000)), [], [(13, some 10), (15, some 12)], []⟩,
      ⟨fV Rep.bool (((cmpI .lss x0.Substantial 0) || (cmpI .gtr x0.Substantial x0.Renew)) || (cmpI .gtr x0.Renew 1000)), [], [(13, some 10), (16, some 13)], []⟩] [17] [] hAt
      ⟨ok_field GRule.l0 fo26_0 rfl opd0,
      ok_load ty3 rfl opd0,
      ok_cmp (op := .lss) (by simp) rfl rfl opd0 opdI,
      ok_move rfl opd0,
      obl_tf rfl rfl rfl rfl rfl rfl rfl (fun hg => ok_field GRule.l0 fo26_0 rfl opd1),
      obl_tf rfl rfl rfl rfl rfl rfl rfl (fun hg => ok_load ty3 rfl (opd1.on hg)),
      obl_tf rfl rfl rfl rfl rfl rfl rfl (fun hg => ok_field GRule.l1 fo26_1 rfl opd1),
      obl_tf rfl rfl rfl rfl rfl rfl rfl (fun hg => ok_load ty3 rfl (opd1.on hg)),
      obl_tf rfl rfl rfl rfl rfl rfl rfl (fun hg => ok_cmp (op := .gtr) (by simp) rfl rfl (opd1.on hg) (opd2.on hg)),
      ok_or rfl opd0 (fun e => (opd1.on (notT e))),
      ok_move rfl opd0,
      obl_tf rfl rfl rfl rfl rfl rfl rfl (fun hg => ok_field GRule.l1 fo26_1 rfl opd1),
      obl_tf rfl rfl rfl rfl rfl rfl rfl (fun hg => ok_load ty3 rfl (opd1.on hg)),
      obl_tf rfl rfl rfl rfl rfl rfl rfl (fun hg => ok_cmp (op := .gtr) (by simp) rfl rfl (opd1.on hg) opdI),
      ok_or rfl opd0 (fun e => (opd1.on (notT e))), trivial⟩ (by kernel_rfl) ?_
  clear hAt
  intro a w hAt
  replace hAt : At B h0 (mkG [(17, fV Rep.bool (((cmpI .lss x0.Substantial 0) || (cmpI .gtr x0.Substantial x0.Renew)) || (cmpI .gtr x0.Renew 1000)))]) (mkO []) F 18 a w := hAt
  refine then_n ?_
  refine wp_if hAt (by rfl) ?_ ?_
  · intro hb1
    have H := iteT hb1 H
    refine wp_seq ?_
    refine reg [⟨fV r_i64 2, [], [], []⟩] [2] [] hAt
        ⟨ok_assign rfl opdI, trivial⟩ (by kernel_rfl) ?_
    clear hAt
    intro a w hAt
    replace hAt : At B h0 (mkG [(2, fV r_i64 2)]) (mkO []) F 18 a w := hAt
    refine then_n ?_
    refine wp_ret ?_
    refine then_r ?_
    cases H
    exact ret1 rfl (rv_tmp rfl rfl) hAt
  · intro hb1
    have H := iteF hb1 H
    refine wp_skip ?_
    refine then_n ?_
    refine wp_seq ?_
    refine reg [⟨fV r_i64 0, [], [], []⟩] [2] [] hAt
        ⟨ok_assign rfl opdI, trivial⟩ (by kernel_rfl) ?_
    clear hAt
    intro a w hAt
    replace hAt : At B h0 (mkG [(2, fV r_i64 0)]) (mkO []) F 18 a w := hAt
    refine then_n ?_
    refine wp_ret ?_
    cases H
    exact ret1 rfl (rv_tmp rfl rfl) hAt
theorem ok_f_survey_worn (N : Nat) (x0 : GPanel) (x1 : Int) (r : Int) (H : f_survey_worn N x0 x1 = some r) : FnOk Try.prog 65 [fV GPanel.rep x0, fV r_i64 x1] (fV r_i64 r) := by
  unfold f_survey_worn at H
  refine fn_enter Try.func65 rfl rfl (by kernel_rfl) ?_
  intro κ B h0 F a w hAt
  refine wp_seq ?_
  refine reg [⟨fRef GPanel.rep x0, [], [(0, none)], []⟩,
      ⟨fV r_i64 0, [], [], []⟩] [1, 2] [] hAt
      ⟨ok_box rfl opd0,
      ok_assign rfl opdI, trivial⟩ (by kernel_rfl) ?_
  clear hAt
  intro a w hAt
  replace hAt : At B h0 (mkG [(1, fV r_i64 x1), (2, fRef GPanel.rep x0)]) (mkO []) F 12 a w := hAt
  refine then_n ?_
  refine wp_seq ?_
  refine wp_seq ?_
  refine reg [⟨fV r_i64 x1, [], [(1, none)], []⟩,
      ⟨fV Rep.bool (cmpI .eql x1 0), [], [(5, some 0)], []⟩] [1, 2, 6] [] hAt
      ⟨ok_move rfl opd0,
      ok_cmp (op := .eql) (by simp) rfl rfl opd0 opdI, trivial⟩ (by kernel_rfl) ?_
  clear hAt
  intro a w hAt
  replace hAt : At B h0 (mkG [(1, fV r_i64 x1), (2, fRef GPanel.rep x0), (6, fV Rep.bool (cmpI .eql x1 0))]) (mkO []) F 12 a w := hAt
  refine then_n ?_
  refine wp_if hAt (by rfl) ?_ ?_
  · intro hb1
    have H := iteT hb1 H
    refine wp_seq ?_
    refine reg [⟨fV r_i64 0, [], [], []⟩] [4] [] hAt
        ⟨ok_assign rfl opdI, trivial⟩ (by kernel_rfl) ?_
    clear hAt
    intro a w hAt
    replace hAt : At B h0 (mkG [(4, fV r_i64 0)]) (mkO []) F 12 a w := hAt
    refine then_n ?_
    refine wp_ret ?_
    refine then_r ?_
    cases H
    exact ret1 rfl (rv_tmp rfl rfl) hAt
  · intro hb1
    have H := iteF hb1 H
    refine wp_skip ?_
    refine then_n ?_
    refine wp_seq ?_
    refine reg [⟨fRef r_i64 x0.Built, [], [(2, none)], []⟩,
        ⟨fV r_i64 x0.Built, [], [(7, some 0)], []⟩,
        ⟨fV r_i64 x1, [], [(1, none)], []⟩,
        ⟨fV r_i64 (IntKind.i64.wrap (x0.Built - x1)), [], [(8, some 1), (9, some 2)], []⟩,
        ⟨fV r_i64 (max (IntKind.i64.wrap (x0.Built - x1)) 0), [], [(10, some 3)], []⟩,
        ⟨fV r_i64 (max (IntKind.i64.wrap (x0.Built - x1)) 0), [], [(11, some 4)], []⟩] [4] [] hAt
        ⟨ok_field GPanel.l3 fo24_3 rfl opd0,
        ok_load ty3 rfl opd0,
        ok_move rfl opd0,
        ok_sub rfl opd0 opd1,
        ok_max rfl opd0 opdI,
        ok_assign rfl opd0, trivial⟩ (by kernel_rfl) ?_
    clear hAt
    intro a w hAt
    replace hAt : At B h0 (mkG [(4, fV r_i64 (max (IntKind.i64.wrap (x0.Built - x1)) 0))]) (mkO []) F 12 a w := hAt
    refine then_n ?_
    refine wp_ret ?_
    cases H
    exact ret1 rfl (rv_tmp rfl rfl) hAt
theorem ok_f_survey_grade (N : Nat) (x0 : GPanel) (x1 : GRule) (x2 : Int) (r : Int) (H : f_survey_grade N x0 x1 x2 = some r) : FnOk Try.prog 67 [fV GPanel.rep x0, fV GRule.rep x1, fV r_i64 x2] (fV r_i64 r) := by
  unfold f_survey_grade at H
  refine fn_enter Try.func67 rfl rfl (by kernel_rfl) ?_
  intro κ B h0 F a w hAt
  refine wp_seq ?_
  refine reg [⟨fRef GPanel.rep x0, [], [(0, none)], []⟩,
      ⟨fRef GRule.rep x1, [], [(1, none)], []⟩,
      ⟨fV r_i64 0, [], [], []⟩] [2, 3, 4] [] hAt
      ⟨ok_box rfl opd0,
      ok_box rfl opd0,
      ok_assign rfl opdI, trivial⟩ (by kernel_rfl) ?_
  clear hAt
  intro a w hAt
  replace hAt : At B h0 (mkG [(2, fV r_i64 x2), (3, fRef GPanel.rep x0), (4, fRef GRule.rep x1)]) (mkO []) F 31 a w := hAt
  refine then_n ?_
  refine wp_seq ?_
  obtain ⟨v1, hv1, H⟩ := bindE H
  refine reg [⟨fV GPanel.rep x0, [], [(3, none)], []⟩,
      ⟨fV r_i64 x2, [], [(2, none)], []⟩,
      ⟨fV r_i64 v1, [], [(8, some 0), (9, some 1)], []⟩,
      ⟨fV r_i64 (IntKind.i64.wrap (1000 * v1)), [], [(10, some 2)], []⟩,
      ⟨fV r_i64 (IntKind.i64.wrap (1000 * v1)), [], [(11, some 3)], []⟩] [2, 3, 4, 7] [] hAt
      ⟨ok_load ty24 rfl opd0,
      ok_move rfl opd0,
      ok_call (ok_f_survey_worn N x0 x2 _ hv1) Try.func65 (by kernel_rfl) (by kernel_rfl) rfl ⟨opd0, ⟨opd1, trivial⟩⟩,
      ok_mul rfl opdI opd0,
      ok_assign rfl opd0, trivial⟩ (by kernel_rfl) ?_
  clear hAt
  intro a w hAt
  replace hAt : At B h0 (mkG [(2, fV r_i64 x2), (3, fRef GPanel.rep x0), (4, fRef GRule.rep x1), (7, fV r_i64 (IntKind.i64.wrap (1000 * v1)))]) (mkO []) F 31 a w := hAt
  refine then_n ?_
  refine wp_seq ?_
  refine wp_block ?_
  refine wp_seq ?_
  refine reg [⟨fV r_i64 x2, [], [(2, none)], []⟩,
      ⟨fV Rep.bool (cmpI .eql x2 0), [], [(13, some 0)], []⟩,
      ⟨fV Rep.bool (cmpI .eql x2 0), [], [(14, some 1)], []⟩] [3, 4, 7, 12] [] hAt
      ⟨ok_move rfl opd0,
      ok_cmp (op := .eql) (by simp) rfl rfl opd0 opdI,
      ok_assign rfl opd0, trivial⟩ (by kernel_rfl) ?_
  clear hAt
  intro a w hAt
  replace hAt : At B h0 (mkG [(3, fRef GPanel.rep x0), (4, fRef GRule.rep x1), (7, fV r_i64 (IntKind.i64.wrap (1000 * v1))), (12, fV Rep.bool (cmpI .eql x2 0))]) (mkO []) F 31 a w := hAt
  refine then_n ?_
  refine wp_if hAt (by rfl) ?_ ?_
  · intro hb4
    have H := iteT hb4 H
    refine wp_seq ?_
    refine reg [⟨fV r_i64 0, [], [], []⟩] [6] [] hAt
        ⟨ok_assign rfl opdI, trivial⟩ (by kernel_rfl) ?_
    clear hAt
    intro a w hAt
    replace hAt : At B h0 (mkG [(6, fV r_i64 0)]) (mkO []) F 31 a w := hAt
    refine then_n ?_
    refine wp_ret ?_
    refine blk_r ?_
    refine then_r ?_
    cases H
    exact ret1 rfl (rv_tmp rfl rfl) hAt
  · intro hb4
    have H := iteF hb4 H
    refine wp_seq ?_
    refine reg [⟨fV r_i64 (IntKind.i64.wrap (1000 * v1)), [], [(7, none)], []⟩,
        ⟨fRef r_i64 x1.Renew, [], [(4, none)], []⟩,
        ⟨fV r_i64 x1.Renew, [], [(17, some 1)], []⟩,
        ⟨fRef r_i64 x0.Built, [], [(3, none)], []⟩,
        ⟨fV r_i64 x0.Built, [], [(19, some 3)], []⟩,
        ⟨fV r_i64 (IntKind.i64.wrap (x1.Renew * x0.Built)), [], [(18, some 2), (20, some 4)], []⟩,
        ⟨fV Rep.bool (cmpI .geq (IntKind.i64.wrap (1000 * v1)) (IntKind.i64.wrap (x1.Renew * x0.Built))), [], [(16, some 0), (21, some 5)], []⟩,
        ⟨fV Rep.bool (cmpI .geq (IntKind.i64.wrap (1000 * v1)) (IntKind.i64.wrap (x1.Renew * x0.Built))), [], [(22, some 6)], []⟩] [3, 4, 7, 15] [] hAt
        ⟨ok_move rfl opd0,
        ok_field GRule.l1 fo26_1 rfl opd0,
        ok_load ty3 rfl opd0,
        ok_field GPanel.l3 fo24_3 rfl opd0,
        ok_load ty3 rfl opd0,
        ok_mul rfl opd0 opd1,
        ok_cmp (op := .geq) (by simp) rfl rfl opd0 opd1,
        ok_assign rfl opd0, trivial⟩ (by kernel_rfl) ?_
    clear hAt
    intro a w hAt
    replace hAt : At B h0 (mkG [(3, fRef GPanel.rep x0), (4, fRef GRule.rep x1), (7, fV r_i64 (IntKind.i64.wrap (1000 * v1))), (15, fV Rep.bool (cmpI .geq (IntKind.i64.wrap (1000 * v1)) (IntKind.i64.wrap (x1.Renew * x0.Built))))]) (mkO []) F 31 a w := hAt
    refine then_n ?_
    refine wp_if hAt (by rfl) ?_ ?_
    · intro hb3
      have H := iteT hb3 H
      refine wp_seq ?_
      refine reg [⟨fV r_i64 3, [], [], []⟩] [6] [] hAt
          ⟨ok_assign rfl opdI, trivial⟩ (by kernel_rfl) ?_
      clear hAt
      intro a w hAt
      replace hAt : At B h0 (mkG [(6, fV r_i64 3)]) (mkO []) F 31 a w := hAt
      refine then_n ?_
      refine wp_ret ?_
      refine blk_r ?_
      refine then_r ?_
      cases H
      exact ret1 rfl (rv_tmp rfl rfl) hAt
    · intro hb3
      have H := iteF hb3 H
      refine wp_seq ?_
      refine reg [⟨fV r_i64 (IntKind.i64.wrap (1000 * v1)), [], [(7, none)], []⟩,
          ⟨fRef r_i64 x1.Substantial, [], [(4, none)], []⟩,
          ⟨fV r_i64 x1.Substantial, [], [(25, some 1)], []⟩,
          ⟨fRef r_i64 x0.Built, [], [(3, none)], []⟩,
          ⟨fV r_i64 x0.Built, [], [(27, some 3)], []⟩,
          ⟨fV r_i64 (IntKind.i64.wrap (x1.Substantial * x0.Built)), [], [(26, some 2), (28, some 4)], []⟩,
          ⟨fV Rep.bool (cmpI .geq (IntKind.i64.wrap (1000 * v1)) (IntKind.i64.wrap (x1.Substantial * x0.Built))), [], [(24, some 0), (29, some 5)], []⟩,
          ⟨fV Rep.bool (cmpI .geq (IntKind.i64.wrap (1000 * v1)) (IntKind.i64.wrap (x1.Substantial * x0.Built))), [], [(30, some 6)], []⟩] [23] [] hAt
          ⟨ok_move rfl opd0,
          ok_field GRule.l0 fo26_0 rfl opd0,
          ok_load ty3 rfl opd0,
          ok_field GPanel.l3 fo24_3 rfl opd0,
          ok_load ty3 rfl opd0,
          ok_mul rfl opd0 opd1,
          ok_cmp (op := .geq) (by simp) rfl rfl opd0 opd1,
          ok_assign rfl opd0, trivial⟩ (by kernel_rfl) ?_
      clear hAt
      intro a w hAt
      replace hAt : At B h0 (mkG [(23, fV Rep.bool (cmpI .geq (IntKind.i64.wrap (1000 * v1)) (IntKind.i64.wrap (x1.Substantial * x0.Built))))]) (mkO []) F 31 a w := hAt
      refine then_n ?_
      refine wp_if hAt (by rfl) ?_ ?_
      · intro hb2
        have H := iteT hb2 H
        refine wp_seq ?_
        refine reg [⟨fV r_i64 2, [], [], []⟩] [6] [] hAt
            ⟨ok_assign rfl opdI, trivial⟩ (by kernel_rfl) ?_
        clear hAt
        intro a w hAt
        replace hAt : At B h0 (mkG [(6, fV r_i64 2)]) (mkO []) F 31 a w := hAt
        refine then_n ?_
        refine wp_ret ?_
        refine blk_r ?_
        refine then_r ?_
        cases H
        exact ret1 rfl (rv_tmp rfl rfl) hAt
      · intro hb2
        have H := iteF hb2 H
        refine wp_skip ?_
        refine blk_n ?_
        refine then_n ?_
        refine wp_seq ?_
        refine reg [⟨fV r_i64 1, [], [], []⟩] [6] [] hAt
            ⟨ok_assign rfl opdI, trivial⟩ (by kernel_rfl) ?_
        clear hAt
        intro a w hAt
        replace hAt : At B h0 (mkG [(6, fV r_i64 1)]) (mkO []) F 31 a w := hAt
        refine then_n ?_
        refine wp_ret ?_
        cases H
        exact ret1 rfl (rv_tmp rfl rfl) hAt
theorem ok_f_survey_Grade (N : Nat) (x0 : GPanel) (x1 : GRule) (r : (List Int) × Int) (H : f_survey_Grade N x0 x1 = some r) : FnOk Try.prog 17 [fV GPanel.rep x0, fV GRule.rep x1] (fT2 (fV (Rep.slice r_i64) (r.1)) (fV r_i64 (r.2))) := by
  unfold f_survey_Grade at H
  refine fn_enter Try.func17 rfl rfl (by kernel_rfl) ?_
  intro κ B h0 F a w hAt
  refine wp_seq ?_
  refine reg [⟨fRef GPanel.rep x0, [], [(0, none)], []⟩,
      ⟨fRef GRule.rep x1, [], [(1, none)], []⟩,
      ⟨fV (Rep.slice r_i64) [], [(4, some (tipE 3 r_i64.sz))], [], []⟩,
      ⟨fV r_i64 0, [], [], []⟩] [2, 3] [] hAt
      ⟨ok_box rfl opd0,
      ok_box rfl opd0,
      ok_nilTip rfl (.inl rfl),
      ok_assign rfl opdI, trivial⟩ (by kernel_rfl) ?_
  clear hAt
  intro a w hAt
  replace hAt : At B h0 (mkG [(2, fRef GPanel.rep x0), (3, fRef GRule.rep x1)]) (mkO []) F 37 a w := hAt
  refine then_n ?_
  refine wp_seq ?_
  refine wp_seq ?_
  obtain ⟨v1, hv1, H⟩ := bindE H
  refine reg [⟨fV GPanel.rep x0, [], [(2, none)], []⟩,
      ⟨fV r_i64 v1, [], [(11, some 0)], []⟩,
      ⟨fV r_i64 v1, [], [(12, some 1)], []⟩] [2, 3, 6] [] hAt
      ⟨ok_load ty24 rfl opd0,
      ok_call (ok_f_survey_CheckPanel N x0 _ hv1) Try.func19 (by kernel_rfl) (by kernel_rfl) rfl ⟨opd0, trivial⟩,
      ok_assign rfl opd0, trivial⟩ (by kernel_rfl) ?_
  clear hAt
  intro a w hAt
  replace hAt : At B h0 (mkG [(2, fRef GPanel.rep x0), (3, fRef GRule.rep x1), (6, fV r_i64 v1)]) (mkO []) F 37 a w := hAt
  refine then_n ?_
  refine wp_seq ?_
  refine reg [⟨fV r_i64 v1, [], [(6, none)], []⟩,
      ⟨fV Rep.bool (cmpI .neq v1 0), [], [(13, some 0)], []⟩] [2, 3, 6, 14] [] hAt
      ⟨ok_move rfl opd0,
      ok_cmp (op := .neq) (by simp) rfl rfl opd0 opdI, trivial⟩ (by kernel_rfl) ?_
  clear hAt
  intro a w hAt
  replace hAt : At B h0 (mkG [(2, fRef GPanel.rep x0), (3, fRef GRule.rep x1), (6, fV r_i64 v1), (14, fV Rep.bool (cmpI .neq v1 0))]) (mkO []) F 37 a w := hAt
  refine then_n ?_
  refine wp_if hAt (by rfl) ?_ ?_
  · intro hb12
    have H := iteT hb12 H
    refine wp_seq ?_
    refine reg [⟨fV r_i64 v1, [], [(6, none)], []⟩,
        ⟨fV (Rep.slice r_i64) [], [(4, some (tipE 3 r_i64.sz))], [], []⟩,
        ⟨fV r_i64 v1, [], [(15, some 0)], []⟩] [4, 5] [4] hAt
        ⟨ok_move rfl opd0,
        ok_nilTip rfl (.inl rfl),
        ok_assign rfl opd0, trivial⟩ (by kernel_rfl) ?_
    clear hAt
    intro a w hAt
    replace hAt : At B h0 (mkG [(4, fV (Rep.slice r_i64) []), (5, fV r_i64 v1)]) (mkO [(4, tipE 3 r_i64.sz)]) F 37 a w := hAt
    refine then_n ?_
    refine wp_ret ?_
    refine then_r ?_
    cases H
    exact ret2 rfl (rv_tmp rfl rfl) (rv_tmp rfl rfl) hAt
  · intro hb12
    have H := iteF hb12 H
    refine wp_skip ?_
    refine then_n ?_
    refine wp_seq ?_
    refine wp_seq ?_
    obtain ⟨v2, hv2, H⟩ := bindE H
    refine reg [⟨fV GRule.rep x1, [], [(3, none)], []⟩,
        ⟨fV r_i64 v2, [], [(16, some 0)], []⟩,
        ⟨fV r_i64 v2, [], [(17, some 1)], []⟩] [2, 3, 7] [] hAt
        ⟨ok_load ty26 rfl opd0,
        ok_call (ok_f_survey_checkRule N x1 _ hv2) Try.func66 (by kernel_rfl) (by kernel_rfl) rfl ⟨opd0, trivial⟩,
        ok_assign rfl opd0, trivial⟩ (by kernel_rfl) ?_
    clear hAt
    intro a w hAt
    replace hAt : At B h0 (mkG [(2, fRef GPanel.rep x0), (3, fRef GRule.rep x1), (7, fV r_i64 v2)]) (mkO []) F 37 a w := hAt
    refine then_n ?_
    refine wp_seq ?_
    refine reg [⟨fV r_i64 v2, [], [(7, none)], []⟩,
        ⟨fV Rep.bool (cmpI .neq v2 0), [], [(18, some 0)], []⟩] [2, 3, 7, 19] [] hAt
        ⟨ok_move rfl opd0,
        ok_cmp (op := .neq) (by simp) rfl rfl opd0 opdI, trivial⟩ (by kernel_rfl) ?_
    clear hAt
    intro a w hAt
    replace hAt : At B h0 (mkG [(2, fRef GPanel.rep x0), (3, fRef GRule.rep x1), (7, fV r_i64 v2), (19, fV Rep.bool (cmpI .neq v2 0))]) (mkO []) F 37 a w := hAt
    refine then_n ?_
    refine wp_if hAt (by rfl) ?_ ?_
    · intro hb11
      have H := iteT hb11 H
      refine wp_seq ?_
      refine reg [⟨fV r_i64 v2, [], [(7, none)], []⟩,
          ⟨fV (Rep.slice r_i64) [], [(4, some (tipE 3 r_i64.sz))], [], []⟩,
          ⟨fV r_i64 v2, [], [(20, some 0)], []⟩] [4, 5] [4] hAt
          ⟨ok_move rfl opd0,
          ok_nilTip rfl (.inl rfl),
          ok_assign rfl opd0, trivial⟩ (by kernel_rfl) ?_
      clear hAt
      intro a w hAt
      replace hAt : At B h0 (mkG [(4, fV (Rep.slice r_i64) []), (5, fV r_i64 v2)]) (mkO [(4, tipE 3 r_i64.sz)]) F 37 a w := hAt
      refine then_n ?_
      refine wp_ret ?_
      refine then_r ?_
      cases H
      exact ret2 rfl (rv_tmp rfl rfl) (rv_tmp rfl rfl) hAt
    · intro hb11
      have H := iteF hb11 H
      refine wp_skip ?_
      refine then_n ?_
      refine wp_seq ?_
      refine reg [⟨fV (Rep.slice r_i64) [], [(8, some (tipE 3 r_i64.sz))], [], []⟩] [2, 3, 8] [8] hAt
          ⟨ok_nilTip rfl (.inl rfl), trivial⟩ (by kernel_rfl) ?_
      clear hAt
      intro a w hAt
      replace hAt : At B h0 (mkG [(2, fRef GPanel.rep x0), (3, fRef GRule.rep x1), (8, fV (Rep.slice r_i64) [])]) (mkO [(8, tipE 3 r_i64.sz)]) F 37 a w := hAt
      refine then_n ?_
      refine wp_seq ?_
      refine wp_seq ?_
      refine reg [⟨fRef (Rep.slice r_i64) x0.Readings, [], [(2, none)], []⟩,
          ⟨fV (Rep.slice r_i64) x0.Readings, [], [(21, some 0)], []⟩,
          ⟨fV r_i64 (List.length x0.Readings : Int), [], [(22, some 1)], []⟩,
          ⟨fV r_i64 0, [], [], []⟩] [2, 3, 8, 22, 23, 24] [8] hAt
          ⟨ok_field GPanel.l4 fo24_4 rfl opd0,
          ok_load ty22 rfl opd0,
          ok_len un22 rfl opd0,
          ok_move rfl opdI, trivial⟩ (by kernel_rfl) ?_
      clear hAt
      intro a w hAt
      replace hAt : At B h0 (mkG [(2, fRef GPanel.rep x0), (3, fRef GRule.rep x1), (8, fV (Rep.slice r_i64) []), (22, fV (Rep.slice r_i64) x0.Readings), (23, fV r_i64 (List.length x0.Readings : Int)), (24, fV r_i64 0)]) (mkO [(8, tipE 3 r_i64.sz)]) F 37 a w := hAt
      refine then_n ?_
      refine wp_block ?_
      obtain ⟨o8, hl9, H⟩ := bindE H
      refine wp_mono (wp_loopN (f := f_survey_Grade_L1 N x0 x1) (fun (s3 : ((List Int) × Int)) a w => At B h0 (mkG [(2, fRef GPanel.rep x0), (3, fRef GRule.rep x1), (8, fV (Rep.slice r_i64) s3.1), (22, fV (Rep.slice r_i64) x0.Readings), (23, fV r_i64 (List.length x0.Readings : Int)), (24, fV r_i64 s3.2)]) (mkO [(8, tipE 3 r_i64.sz)]) F 37 a w) (fun o e a w => (fun v => e = .exit 0 ∧ At B h0 (mkG [(8, fV (Rep.slice r_i64) v)]) (mkO [(8, tipE 3 r_i64.sz)]) F 37 a w) o) ?_ N ([], 0) o8 _ _ hl9 ?_) ?_
      · clear H hAt hl9
        intro s3 r10 a w H hAt
        unfold f_survey_Grade_L1 at H
        refine wp_seq ?_
        refine reg [⟨fV Rep.bool (cmpI .lss s3.2 (List.length x0.Readings : Int)), [], [(24, none), (23, none)], []⟩] [2, 3, 8, 22, 23, 24, 25] [8] hAt
            ⟨ok_cmp (op := .lss) (by simp) rfl rfl opd0 opd1, trivial⟩ (by kernel_rfl) ?_
        clear hAt
        intro a w hAt
        replace hAt : At B h0 (mkG [(2, fRef GPanel.rep x0), (3, fRef GRule.rep x1), (8, fV (Rep.slice r_i64) s3.1), (22, fV (Rep.slice r_i64) x0.Readings), (23, fV r_i64 (List.length x0.Readings : Int)), (24, fV r_i64 s3.2), (25, fV Rep.bool (cmpI .lss s3.2 (List.length x0.Readings : Int)))]) (mkO [(8, tipE 3 r_i64.sz)]) F 37 a w := hAt
        refine then_n ?_
        refine wp_seq ?_
        refine wp_if hAt (by rfl) ?_ ?_
        · intro hb7
          have H := iteT hb7 H
          refine wp_skip ?_
          refine then_n ?_
          refine wp_seq ?_
          refine wp_block ?_
          refine wp_seq ?_
          obtain ⟨v4, hv4, H⟩ := bindE H
          refine reg [⟨fRef r_i64 v4, [], [(22, none), (24, none)], []⟩,
              ⟨fV r_i64 v4, [], [(26, some 0)], []⟩,
              ⟨fV r_i64 v4, [], [(27, some 1)], []⟩] [2, 3, 8, 10, 22, 23, 24] [8] hAt
              ⟨ok_index ty3 un22 hv4 rfl opd0 opd1,
              ok_load ty3 rfl opd0,
              ok_assign rfl opd0, trivial⟩ (by kernel_rfl) ?_
          clear hAt
          intro a w hAt
          replace hAt : At B h0 (mkG [(2, fRef GPanel.rep x0), (3, fRef GRule.rep x1), (8, fV (Rep.slice r_i64) s3.1), (10, fV r_i64 v4), (22, fV (Rep.slice r_i64) x0.Readings), (23, fV r_i64 (List.length x0.Readings : Int)), (24, fV r_i64 s3.2)]) (mkO [(8, tipE 3 r_i64.sz)]) F 37 a w := hAt
          refine then_n ?_
          obtain ⟨v5, hv5, H⟩ := bindE H
          obtain ⟨v6, hv6, H⟩ := bindE H
          refine reg [⟨fV (Rep.slice r_i64) s3.1, [(8, none), (28, some (tipE 3 r_i64.sz))], [(8, none)], [(8, none)]⟩,
              ⟨fV GPanel.rep x0, [], [(2, none)], []⟩,
              ⟨fV GRule.rep x1, [], [(3, none)], []⟩,
              ⟨fV r_i64 v4, [], [(10, none)], []⟩,
              ⟨fV r_i64 v5, [], [(29, some 1), (30, some 2), (31, some 3)], []⟩,
              ⟨fV (Rep.slice r_i64) [v5], [], [(32, some 4)], []⟩,
              ⟨fV (Rep.slice r_i64) v6, [(28, none), (34, some (tipE 3 r_i64.sz))], [(28, some 0), (33, some 5)], [(28, some 0)]⟩,
              ⟨fV (Rep.slice r_i64) v6, [(34, none), (8, some (tipE 3 r_i64.sz))], [(34, some 6)], [(34, some 6)]⟩] [2, 3, 8, 22, 23, 24] [8] hAt
              ⟨ok_moveOwn rfl rfl (.inl rfl) opd0,
              ok_load ty24 rfl opd0,
              ok_load ty26 rfl opd0,
              ok_move rfl opd0,
              ok_call (ok_f_survey_grade N x0 x1 v4 _ hv5) Try.func67 (by kernel_rfl) (by kernel_rfl) rfl ⟨opd0, ⟨opd1, ⟨opd2, trivial⟩⟩⟩,
              ok_buildSlice ty3 un22 rfl rfl (fillC (Lens.arr _ _ 0 (by decide)) rfl opd0 fillN),
              ok_append hv6 el3 un22 rfl rfl rfl opd0 opd1,
              ok_moveOwn rfl rfl (.inr rfl) opd0, trivial⟩ (by kernel_rfl) ?_
          clear hAt
          intro a w hAt
          replace hAt : At B h0 (mkG [(2, fRef GPanel.rep x0), (3, fRef GRule.rep x1), (8, fV (Rep.slice r_i64) v6), (22, fV (Rep.slice r_i64) x0.Readings), (23, fV r_i64 (List.length x0.Readings : Int)), (24, fV r_i64 s3.2)]) (mkO [(8, tipE 3 r_i64.sz)]) F 37 a w := hAt
          refine blk_n ?_
          refine then_n ?_
          refine reg [⟨fV r_i64 (IntKind.i64.wrap (s3.2 + 1)), [], [(24, none)], []⟩,
              ⟨fV r_i64 (IntKind.i64.wrap (s3.2 + 1)), [], [(35, some 0)], []⟩] [2, 3, 8, 22, 23, 24] [8] hAt
              ⟨ok_add rfl opd0 opdI,
              ok_move rfl opd0, trivial⟩ (by kernel_rfl) ?_
          clear hAt
          intro a w hAt
          replace hAt : At B h0 (mkG [(2, fRef GPanel.rep x0), (3, fRef GRule.rep x1), (8, fV (Rep.slice r_i64) v6), (22, fV (Rep.slice r_i64) x0.Readings), (23, fV r_i64 (List.length x0.Readings : Int)), (24, fV r_i64 (IntKind.i64.wrap (s3.2 + 1)))]) (mkO [(8, tipE 3 r_i64.sz)]) F 37 a w := hAt
          cases H
          exact ⟨rfl, hAt.pick [2, 3, 8, 22, 23, 24] [8]⟩
        · intro hb7
          have H := iteF hb7 H
          refine wp_exit ?_
          refine then_x ?_
          cases H
          exact ⟨ex_ne, rfl, hAt.pick [8] [8]⟩
      · exact hAt.pick [2, 3, 8, 22, 23, 24] [8]
      · clear hAt
        intro e a w hp
        obtain ⟨rfl, hAt⟩ := hp
        refine blk_eq ?_
        refine then_n ?_
        refine wp_seq ?_
        refine reg [⟨fV (Rep.slice r_i64) o8, [], [(8, none)], []⟩,
            ⟨fV (Rep.slice r_i64) o8, [], [(36, some 0)], []⟩,
            ⟨fV r_i64 0, [], [], []⟩] [4, 5] [] hAt
            ⟨ok_move rfl opd0,
            ok_assign rfl opd0,
            ok_assign rfl opdI, trivial⟩ (by kernel_rfl) ?_
        clear hAt
        intro a w hAt
        replace hAt : At B h0 (mkG [(4, fV (Rep.slice r_i64) o8), (5, fV r_i64 0)]) (mkO []) F 37 a w := hAt
        refine then_n ?_
        refine wp_ret ?_
        cases H
        exact ret2 rfl (rv_tmp rfl rfl) (rv_tmp rfl rfl) hAt
theorem ok_f_base_limbs (N : Nat) (x0 : Int) (r : (List Int)) (H : f_base_limbs N x0 = some r) : FnOk Try.prog 124 [fV r_u64 x0] (fV (Rep.slice r_u16) r) := by
  unfold f_base_limbs at H
  refine fn_enter Try.func124 rfl rfl (by kernel_rfl) ?_
  intro κ B h0 F a w hAt
  refine wp_seq ?_
  refine reg [⟨fV (Rep.slice r_u16) [], [(2, some (tipE 103 r_u16.sz))], [], []⟩] [0] [] hAt
      ⟨ok_nilTip rfl (.inl rfl), trivial⟩ (by kernel_rfl) ?_
  clear hAt
  intro a w hAt
  replace hAt : At B h0 (mkG [(0, fV r_u64 x0)]) (mkO []) F 15 a w := hAt
  refine then_n ?_
  refine wp_seq ?_
  refine reg [⟨fV (Rep.slice r_u16) [], [(3, some (tipE 103 r_u16.sz))], [], []⟩] [0, 3] [3] hAt
      ⟨ok_nilTip rfl (.inl rfl), trivial⟩ (by kernel_rfl) ?_
  clear hAt
  intro a w hAt
  replace hAt : At B h0 (mkG [(0, fV r_u64 x0), (3, fV (Rep.slice r_u16) [])]) (mkO [(3, tipE 103 r_u16.sz)]) F 15 a w := hAt
  refine then_n ?_
  refine wp_seq ?_
  refine wp_block ?_
  obtain ⟨o5, hl6, H⟩ := bindE H
  refine wp_mono (wp_loopN (f := f_base_limbs_L1 N) (fun (s1 : (Int × (List Int))) a w => At B h0 (mkG [(0, fV r_u64 s1.1), (3, fV (Rep.slice r_u16) s1.2)]) (mkO [(3, tipE 103 r_u16.sz)]) F 15 a w) (fun o e a w => (fun v => e = .exit 0 ∧ At B h0 (mkG [(3, fV (Rep.slice r_u16) v)]) (mkO [(3, tipE 103 r_u16.sz)]) F 15 a w) o) ?_ N (x0, []) o5 _ _ hl6 ?_) ?_
  · clear H hAt hl6
    intro s1 r7 a w H hAt
    unfold f_base_limbs_L1 at H
    refine wp_seq ?_
    refine wp_seq ?_
    refine reg [⟨fV r_u64 s1.1, [], [(0, none)], []⟩,
        ⟨fV Rep.bool (cmpI .gtr s1.1 0), [], [(4, some 0)], []⟩] [0, 3, 5] [3] hAt
        ⟨ok_move rfl opd0,
        ok_cmp (op := .gtr) (by simp) rfl rfl opd0 opdI, trivial⟩ (by kernel_rfl) ?_
    clear hAt
    intro a w hAt
    replace hAt : At B h0 (mkG [(0, fV r_u64 s1.1), (3, fV (Rep.slice r_u16) s1.2), (5, fV Rep.bool (cmpI .gtr s1.1 0))]) (mkO [(3, tipE 103 r_u16.sz)]) F 15 a w := hAt
    refine then_n ?_
    refine wp_if hAt (by rfl) ?_ ?_
    · intro hb4
      have H := iteT hb4 H
      refine wp_skip ?_
      refine then_n ?_
      refine wp_seq ?_
      refine wp_block ?_
      obtain ⟨v2, hv2, H⟩ := bindE H
      refine reg [⟨fV (Rep.slice r_u16) s1.2, [(3, none), (8, some (tipE 103 r_u16.sz))], [(3, none)], [(3, none)]⟩,
          ⟨fV r_u64 s1.1, [], [(0, none)], []⟩,
          ⟨fV r_u64 (bitI .and .u64 s1.1 65535), [], [(9, some 1)], []⟩,
          ⟨fV r_u16 (IntKind.u16.wrap (bitI .and .u64 s1.1 65535)), [], [(10, some 2)], []⟩,
          ⟨fV (Rep.slice r_u16) [(IntKind.u16.wrap (bitI .and .u64 s1.1 65535))], [], [(11, some 3)], []⟩,
          ⟨fV (Rep.slice r_u16) v2, [(8, none), (13, some (tipE 103 r_u16.sz))], [(8, some 0), (12, some 4)], [(8, some 0)]⟩,
          ⟨fV (Rep.slice r_u16) v2, [(13, none), (3, some (tipE 103 r_u16.sz))], [(13, some 5)], [(13, some 5)]⟩] [0, 3] [3] hAt
          ⟨ok_moveOwn rfl rfl (.inl rfl) opd0,
          ok_move rfl opd0,
          ok_bit (op := .and) (by simp) rfl opd0 opdI,
          ok_conv un186 un103 rfl opd0,
          ok_buildSlice ty103 un45 rfl rfl (fillC (Lens.arr _ _ 0 (by decide)) rfl opd0 fillN),
          ok_append hv2 el103 un45 rfl rfl rfl opd0 opd1,
          ok_moveOwn rfl rfl (.inr rfl) opd0, trivial⟩ (by kernel_rfl) ?_
      clear hAt
      intro a w hAt
      replace hAt : At B h0 (mkG [(0, fV r_u64 s1.1), (3, fV (Rep.slice r_u16) v2)]) (mkO [(3, tipE 103 r_u16.sz)]) F 15 a w := hAt
      refine blk_n ?_
      refine then_n ?_
      obtain ⟨v3, hv3, H⟩ := bindE H
      refine reg [⟨fV r_u64 s1.1, [], [(0, none)], []⟩,
          ⟨fV r_u64 v3, [], [(6, some 0)], []⟩,
          ⟨fV r_u64 v3, [], [(7, some 1)], []⟩] [0, 3] [3] hAt
          ⟨ok_move rfl opd0,
          ok_shr hv3 rfl opd0 opdI,
          ok_assign rfl opd0, trivial⟩ (by kernel_rfl) ?_
      clear hAt
      intro a w hAt
      replace hAt : At B h0 (mkG [(0, fV r_u64 v3), (3, fV (Rep.slice r_u16) v2)]) (mkO [(3, tipE 103 r_u16.sz)]) F 15 a w := hAt
      cases H
      exact ⟨rfl, hAt.pick [0, 3] [3]⟩
    · intro hb4
      have H := iteF hb4 H
      refine wp_exit ?_
      refine then_x ?_
      cases H
      exact ⟨ex_ne, rfl, hAt.pick [3] [3]⟩
  · exact hAt.pick [0, 3] [3]
  · clear hAt
    intro e a w hp
    obtain ⟨rfl, hAt⟩ := hp
    refine blk_eq ?_
    refine then_n ?_
    refine wp_seq ?_
    refine reg [⟨fV (Rep.slice r_u16) o5, [], [(3, none)], []⟩,
        ⟨fV (Rep.slice r_u16) o5, [], [(14, some 0)], []⟩] [2] [] hAt
        ⟨ok_move rfl opd0,
        ok_assign rfl opd0, trivial⟩ (by kernel_rfl) ?_
    clear hAt
    intro a w hAt
    replace hAt : At B h0 (mkG [(2, fV (Rep.slice r_u16) o5)]) (mkO []) F 15 a w := hAt
    refine then_n ?_
    refine wp_ret ?_
    cases H
    exact ret1 rfl (rv_tmp rfl rfl) hAt
theorem ok_f_base_Z (N : Nat) (x0 : Int) (r : GInt) (H : f_base_Z N x0 = some r) : FnOk Try.prog 80 [fV r_i64 x0] (fV GInt.rep r) := by
  unfold f_base_Z at H
  refine fn_enter Try.func80 rfl rfl (by kernel_rfl) ?_
  intro κ B h0 F a w hAt
  refine wp_seq ?_
  refine reg [⟨Fact.triv, [(2, some (boxE 47 GInt.rep (⟨false, []⟩ : GInt)))], [], []⟩] [0] [2] hAt
      ⟨ok_alloc ty47 rfl rfl, trivial⟩ (by kernel_rfl) ?_
  clear hAt
  intro a w hAt
  replace hAt : At B h0 (mkG [(0, fV r_i64 x0)]) (mkO [(2, boxE 47 GInt.rep (⟨false, []⟩ : GInt))]) F 16 a w := hAt
  refine then_n ?_
  refine wp_seq ?_
  refine wp_seq ?_
  refine reg [⟨fV r_i64 x0, [], [(0, none)], []⟩,
      ⟨fV Rep.bool (cmpI .lss x0 0), [], [(3, some 0)], []⟩] [0, 4] [2] hAt
      ⟨ok_move rfl opd0,
      ok_cmp (op := .lss) (by simp) rfl rfl opd0 opdI, trivial⟩ (by kernel_rfl) ?_
  clear hAt
  intro a w hAt
  replace hAt : At B h0 (mkG [(0, fV r_i64 x0), (4, fV Rep.bool (cmpI .lss x0 0))]) (mkO [(2, boxE 47 GInt.rep (⟨false, []⟩ : GInt))]) F 16 a w := hAt
  refine then_n ?_
  refine wp_if hAt (by rfl) ?_ ?_
  · intro hb3
    have H := iteT hb3 H
    refine wp_seq ?_
    obtain ⟨v1, hv1, H⟩ := bindE H
    refine reg [⟨fV r_i64 x0, [], [(0, none)], []⟩,
        ⟨fV r_i64 (IntKind.i64.wrap (x0 + 1)), [], [(5, some 0)], []⟩,
        ⟨fV r_i64 (IntKind.i64.wrap (0 - (IntKind.i64.wrap (x0 + 1)))), [], [(6, some 1)], []⟩,
        ⟨fV r_u64 (IntKind.u64.wrap (IntKind.i64.wrap (0 - (IntKind.i64.wrap (x0 + 1))))), [], [(7, some 2)], []⟩,
        ⟨fV r_u64 (IntKind.u64.wrap ((IntKind.u64.wrap (IntKind.i64.wrap (0 - (IntKind.i64.wrap (x0 + 1))))) + 1)), [], [(8, some 3)], []⟩,
        ⟨fV (Rep.slice r_u16) v1, [], [(9, some 4)], []⟩,
        ⟨fV GInt.rep (⟨true, v1⟩ : GInt), [], [(10, some 5)], []⟩,
        ⟨Fact.triv, [(2, some (boxE 47 GInt.rep (⟨true, v1⟩ : GInt)))], [(11, some 6)], [(2, none)]⟩] [] [2] hAt
        ⟨ok_move rfl opd0,
        ok_add rfl opd0 opdI,
        ok_neg rfl opd0,
        ok_conv un3 un186 rfl opd0,
        ok_add rfl opd0 opdI,
        ok_call (ok_f_base_limbs N (IntKind.u64.wrap ((IntKind.u64.wrap (IntKind.i64.wrap (0 - (IntKind.i64.wrap (x0 + 1))))) + 1)) _ hv1) Try.func124 (by kernel_rfl) (by kernel_rfl) rfl ⟨opd0, trivial⟩,
        ok_build ty47 rfl pl47 rfl (fillC GInt.l0 rfl opdB (fillC GInt.l1 rfl opd0 fillN)),
        ok_storeBox ty47 rfl rfl opd0, trivial⟩ (by kernel_rfl) ?_
    clear hAt
    intro a w hAt
    replace hAt : At B h0 (mkG []) (mkO [(2, boxE 47 GInt.rep (⟨true, v1⟩ : GInt))]) F 16 a w := hAt
    refine then_n ?_
    refine wp_ret ?_
    refine then_r ?_
    cases H
    exact ret1 rfl (rv_cell ty47 rfl) hAt
  · intro hb3
    have H := iteF hb3 H
    refine wp_skip ?_
    refine then_n ?_
    refine wp_seq ?_
    obtain ⟨v2, hv2, H⟩ := bindE H
    refine reg [⟨fV r_i64 x0, [], [(0, none)], []⟩,
        ⟨fV r_u64 (IntKind.u64.wrap x0), [], [(12, some 0)], []⟩,
        ⟨fV (Rep.slice r_u16) v2, [], [(13, some 1)], []⟩,
        ⟨fV GInt.rep (⟨false, v2⟩ : GInt), [], [(14, some 2)], []⟩,
        ⟨Fact.triv, [(2, some (boxE 47 GInt.rep (⟨false, v2⟩ : GInt)))], [(15, some 3)], [(2, none)]⟩] [] [2] hAt
        ⟨ok_move rfl opd0,
        ok_conv un3 un186 rfl opd0,
        ok_call (ok_f_base_limbs N (IntKind.u64.wrap x0) _ hv2) Try.func124 (by kernel_rfl) (by kernel_rfl) rfl ⟨opd0, trivial⟩,
        ok_build ty47 rfl pl47 rfl (fillC GInt.l1 rfl opd0 fillN),
        ok_storeBox ty47 rfl rfl opd0, trivial⟩ (by kernel_rfl) ?_
    clear hAt
    intro a w hAt
    replace hAt : At B h0 (mkG []) (mkO [(2, boxE 47 GInt.rep (⟨false, v2⟩ : GInt))]) F 16 a w := hAt
    refine then_n ?_
    refine wp_ret ?_
    cases H
    exact ret1 rfl (rv_cell ty47 rfl) hAt
theorem ok_f_base_W (N : Nat) (x0 : Int) (r : GRat) (H : f_base_W N x0 = some r) : FnOk Try.prog 37 [fV r_i64 x0] (fV GRat.rep r) := by
  unfold f_base_W at H
  refine fn_enter Try.func37 rfl rfl (by kernel_rfl) ?_
  intro κ B h0 F a w hAt
  refine wp_seq ?_
  refine reg [⟨Fact.triv, [(2, some (boxE 49 GRat.rep (⟨(⟨false, []⟩ : GInt), (⟨false, []⟩ : GInt)⟩ : GRat)))], [], []⟩] [0] [2] hAt
      ⟨ok_alloc ty49 rfl rfl, trivial⟩ (by kernel_rfl) ?_
  clear hAt
  intro a w hAt
  replace hAt : At B h0 (mkG [(0, fV r_i64 x0)]) (mkO [(2, boxE 49 GRat.rep (⟨(⟨false, []⟩ : GInt), (⟨false, []⟩ : GInt)⟩ : GRat))]) F 7 a w := hAt
  refine then_n ?_
  refine wp_seq ?_
  obtain ⟨v1, hv1, H⟩ := bindE H
  obtain ⟨v2, hv2, H⟩ := bindE H
  refine reg [⟨fV r_i64 x0, [], [(0, none)], []⟩,
      ⟨fV GInt.rep v1, [], [(3, some 0)], []⟩,
      ⟨fV GInt.rep v2, [], [], []⟩,
      ⟨fV GRat.rep (⟨v1, v2⟩ : GRat), [], [(4, some 1), (5, some 2)], []⟩,
      ⟨Fact.triv, [(2, some (boxE 49 GRat.rep (⟨v1, v2⟩ : GRat)))], [(6, some 3)], [(2, none)]⟩] [] [2] hAt
      ⟨ok_move rfl opd0,
      ok_call (ok_f_base_Z N x0 _ hv1) Try.func80 (by kernel_rfl) (by kernel_rfl) rfl ⟨opd0, trivial⟩,
      ok_call (ok_f_base_Z N 1 _ hv2) Try.func80 (by kernel_rfl) (by kernel_rfl) rfl ⟨opdI, trivial⟩,
      ok_build ty49 rfl pl49 rfl (fillC GRat.l0 rfl opd0 (fillC GRat.l1 rfl opd1 fillN)),
      ok_storeBox ty49 rfl rfl opd0, trivial⟩ (by kernel_rfl) ?_
  clear hAt
  intro a w hAt
  replace hAt : At B h0 (mkG []) (mkO [(2, boxE 49 GRat.rep (⟨v1, v2⟩ : GRat))]) F 7 a w := hAt
  refine then_n ?_
  refine wp_ret ?_
  cases H
  exact ret1 rfl (rv_cell ty49 rfl) hAt
theorem ok_f_base_SameInt (N : Nat) (x0 : GInt) (x1 : GInt) (r : Bool) (H : f_base_SameInt N x0 x1 = some r) : FnOk Try.prog 76 [fV GInt.rep x0, fV GInt.rep x1] (fV Rep.bool r) := by
  unfold f_base_SameInt at H
  refine fn_enter Try.func76 rfl rfl (by kernel_rfl) ?_
  intro κ B h0 F a w hAt
  refine wp_seq ?_
  refine reg [⟨fRef GInt.rep x0, [], [(0, none)], []⟩,
      ⟨fRef GInt.rep x1, [], [(1, none)], []⟩,
      ⟨fV Rep.bool false, [], [], []⟩] [2, 3] [] hAt
      ⟨ok_box rfl opd0,
      ok_box rfl opd0,
      ok_assign rfl opdB, trivial⟩ (by kernel_rfl) ?_
  clear hAt
  intro a w hAt
  replace hAt : At B h0 (mkG [(2, fRef GInt.rep x0), (3, fRef GInt.rep x1)]) (mkO []) F 38 a w := hAt
  refine then_n ?_
  refine wp_seq ?_
  refine wp_seq ?_
  refine reg [⟨fRef Rep.bool x0.Neg, [], [(2, none)], []⟩,
      ⟨fV Rep.bool x0.Neg, [], [(6, some 0)], []⟩,
      ⟨fRef Rep.bool x1.Neg, [], [(3, none)], []⟩,
      ⟨fV Rep.bool x1.Neg, [], [(8, some 2)], []⟩,
      ⟨fV Rep.bool (!(x0.Neg == x1.Neg)), [], [(7, some 1), (9, some 3)], []⟩,
      ⟨fV Rep.bool (!(x0.Neg == x1.Neg)), [], [(10, some 4)], []⟩,
      ⟨Fact.when ((!(!(x0.Neg == x1.Neg))) = true) (fRef (Rep.slice r_u16) x0.Limbs), [], [(11, some 5), (2, none)], []⟩,
      ⟨Fact.when ((!(!(x0.Neg == x1.Neg))) = true) (fV (Rep.slice r_u16) x0.Limbs), [], [(11, some 5), (12, some 6)], []⟩,
      ⟨Fact.when ((!(!(x0.Neg == x1.Neg))) = true) (fV r_i64 (List.length x0.Limbs : Int)), [], [(11, some 5), (13, some 7)], []⟩,
      ⟨Fact.when ((!(!(x0.Neg == x1.Neg))) = true) (fRef (Rep.slice r_u16) x1.Limbs), [], [(11, some 5), (3, none)], []⟩,
      ⟨Fact.when ((!(!(x0.Neg == x1.Neg))) = true) (fV (Rep.slice r_u16) x1.Limbs), [], [(11, some 5), (15, some 9)], []⟩,
      ⟨Fact.when ((!(!(x0.Neg == x1.Neg))) = true) (fV r_i64 (List.length x1.Limbs : Int)), [], [(11, some 5), (16, some 10)], []⟩,
      ⟨Fact.when ((!(!(x0.Neg == x1.Neg))) = true) (fV Rep.bool (cmpI .neq (List.length x0.Limbs : Int) (List.length x1.Limbs : Int))), [], [(11, some 5), (14, some 8), (17, some 11)], []⟩,
      ⟨fV Rep.bool ((!(x0.Neg == x1.Neg)) || (cmpI .neq (List.length x0.Limbs : Int) (List.length x1.Limbs : Int))), [], [(11, some 5), (18, some 12)], []⟩] [2, 3, 19] [] hAt
      ⟨ok_field GInt.l0 fo47_0 rfl opd0,
      ok_load ty4 rfl opd0,
      ok_field GInt.l0 fo47_0 rfl opd0,
      ok_load ty4 rfl opd0,
      ok_neB un4 rfl opd0 opd1,
      ok_move rfl opd0,
      obl_tf rfl rfl rfl rfl rfl rfl rfl (fun hg => ok_field GInt.l1 fo47_1 rfl opd1),
      obl_tf rfl rfl rfl rfl rfl rfl rfl (fun hg => ok_load ty45 rfl (opd1.on hg)),
      obl_tf rfl rfl rfl rfl rfl rfl rfl (fun hg => ok_len un45 rfl (opd1.on hg)),
      obl_tf rfl rfl rfl rfl rfl rfl rfl (fun hg => ok_field GInt.l1 fo47_1 rfl opd1),
      obl_tf rfl rfl rfl rfl rfl rfl rfl (fun hg => ok_load ty45 rfl (opd1.on hg)),
      obl_tf rfl rfl rfl rfl rfl rfl rfl (fun hg => ok_len un45 rfl (opd1.on hg)),
      obl_tf rfl rfl rfl rfl rfl rfl rfl (fun hg => ok_cmp (op := .neq) (by simp) rfl rfl (opd1.on hg) (opd2.on hg)),
      ok_or rfl opd0 (fun e => (opd1.on (notT e))), trivial⟩ (by kernel_rfl) ?_
  clear hAt
  intro a w hAt
  replace hAt : At B h0 (mkG [(2, fRef GInt.rep x0), (3, fRef GInt.rep x1), (19, fV Rep.bool ((!(x0.Neg == x1.Neg)) || (cmpI .neq (List.length x0.Limbs : Int) (List.length x1.Limbs : Int))))]) (mkO []) F 38 a w := hAt
  refine then_n ?_
  refine wp_if hAt (by rfl) ?_ ?_
  · intro hb11
    have H := iteT hb11 H
    refine wp_seq ?_
    refine reg [⟨fV Rep.bool false, [], [], []⟩] [4] [] hAt
        ⟨ok_assign rfl opdB, trivial⟩ (by kernel_rfl) ?_
    clear hAt
    intro a w hAt
    replace hAt : At B h0 (mkG [(4, fV Rep.bool false)]) (mkO []) F 38 a w := hAt
    refine then_n ?_
    refine wp_ret ?_
    refine then_r ?_
    cases H
    exact ret1 rfl (rv_tmp rfl rfl) hAt
  · intro hb11
    have H := iteF hb11 H
    refine wp_skip ?_
    refine then_n ?_
    refine wp_seq ?_
    refine wp_seq ?_
    refine reg [⟨fV r_i64 0, [], [], []⟩] [2, 3, 5] [] hAt
        ⟨ok_assign rfl opdI, trivial⟩ (by kernel_rfl) ?_
    clear hAt
    intro a w hAt
    replace hAt : At B h0 (mkG [(2, fRef GInt.rep x0), (3, fRef GInt.rep x1), (5, fV r_i64 0)]) (mkO []) F 38 a w := hAt
    refine then_n ?_
    refine wp_block ?_
    obtain ⟨o6, hl7, H⟩ := bindE H
    refine wp_mono (wp_loopN (f := f_base_SameInt_L1 N x0 x1) (fun (s1 : Int) a w => At B h0 (mkG [(2, fRef GInt.rep x0), (3, fRef GInt.rep x1), (5, fV r_i64 s1)]) (mkO []) F 38 a w) (fun o e a w => (Sum.elim (fun v => e = .exit 0 ∧ At B h0 (mkG []) (mkO []) F 38 a w) (fun v => e = .ret ∧ At B h0 (mkG [(4, fV Rep.bool v)]) (mkO []) F 38 a w)) o) ?_ N 0 o6 _ _ hl7 ?_) ?_
    · clear H hAt hl7
      intro s1 r10 a w H hAt
      unfold f_base_SameInt_L1 at H
      refine wp_seq ?_
      refine wp_seq ?_
      refine reg [⟨fV r_i64 s1, [], [(5, none)], []⟩,
          ⟨fRef (Rep.slice r_u16) x0.Limbs, [], [(2, none)], []⟩,
          ⟨fV (Rep.slice r_u16) x0.Limbs, [], [(21, some 1)], []⟩,
          ⟨fV r_i64 (List.length x0.Limbs : Int), [], [(22, some 2)], []⟩,
          ⟨fV Rep.bool (cmpI .lss s1 (List.length x0.Limbs : Int)), [], [(20, some 0), (23, some 3)], []⟩] [2, 3, 5, 24] [] hAt
          ⟨ok_move rfl opd0,
          ok_field GInt.l1 fo47_1 rfl opd0,
          ok_load ty45 rfl opd0,
          ok_len un45 rfl opd0,
          ok_cmp (op := .lss) (by simp) rfl rfl opd0 opd1, trivial⟩ (by kernel_rfl) ?_
      clear hAt
      intro a w hAt
      replace hAt : At B h0 (mkG [(2, fRef GInt.rep x0), (3, fRef GInt.rep x1), (5, fV r_i64 s1), (24, fV Rep.bool (cmpI .lss s1 (List.length x0.Limbs : Int)))]) (mkO []) F 38 a w := hAt
      refine then_n ?_
      refine wp_if hAt (by rfl) ?_ ?_
      · intro hb5
        have H := iteT hb5 H
        refine wp_skip ?_
        refine then_n ?_
        refine wp_seq ?_
        refine wp_block ?_
        refine wp_seq ?_
        obtain ⟨v2, hv2, H⟩ := bindE H
        obtain ⟨v3, hv3, H⟩ := bindE H
        refine regd [⟨fRef (Rep.slice r_u16) x0.Limbs, [], [(2, none)], []⟩,
            ⟨fV (Rep.slice r_u16) x0.Limbs, [], [(27, some 0)], []⟩,
            ⟨fV r_i64 s1, [], [(5, none)], []⟩,
            ⟨fRef r_u16 v2, [], [(28, some 1), (29, some 2)], []⟩,
            ⟨fV r_u16 v2, [], [(30, some 3)], []⟩,
            ⟨fRef (Rep.slice r_u16) x1.Limbs, [], [(3, none)], []⟩,
            ⟨fV (Rep.slice r_u16) x1.Limbs, [], [(32, some 5)], []⟩,
            ⟨fV r_i64 s1, [], [(5, none)], []⟩,
            ⟨fRef r_u16 v3, [], [(33, some 6), (34, some 7)], []⟩,
            ⟨fV r_u16 v3, [], [(35, some 8)], []⟩,
            ⟨fV Rep.bool (cmpI .neq v2 v3), [], [(31, some 4), (36, some 9)], []⟩] [0, 1, 2, 3, 4, 5, 6, 7, 8, 9, 10] [0, 1, 2, 3, 4, 5, 6, 7, 8, 9, 10] [2, 3, 5, 37] [] hAt
            ⟨ok_field GInt.l1 fo47_1 rfl opd0,
            ok_load ty45 rfl opd0,
            ok_move rfl opd0,
            ok_index ty103 un45 hv2 rfl opd0 opd1,
            ok_load ty103 rfl opd0,
            ok_field GInt.l1 fo47_1 rfl opd0,
            ok_load ty45 rfl opd0,
            ok_move rfl opd0,
            ok_index ty103 un45 hv3 rfl opd0 opd1,
            ok_load ty103 rfl opd0,
            ok_cmp (op := .neq) (by simp) rfl rfl opd0 opd1, trivial⟩ (by kernel_rfl) ?_
        clear hAt
        intro a w hAt
        replace hAt : At B h0 (mkG [(2, fRef GInt.rep x0), (3, fRef GInt.rep x1), (5, fV r_i64 s1), (37, fV Rep.bool (cmpI .neq v2 v3))]) (mkO []) F 38 a w := hAt
        refine then_n ?_
        refine wp_if hAt (by rfl) ?_ ?_
        · intro hb4
          have H := iteT hb4 H
          refine wp_seq ?_
          refine reg [⟨fV Rep.bool false, [], [], []⟩] [4] [] hAt
              ⟨ok_assign rfl opdB, trivial⟩ (by kernel_rfl) ?_
          clear hAt
          intro a w hAt
          replace hAt : At B h0 (mkG [(4, fV Rep.bool false)]) (mkO []) F 38 a w := hAt
          refine then_n ?_
          refine wp_ret ?_
          refine blk_r ?_
          refine then_r ?_
          cases H
          exact ⟨ret_ne, rfl, hAt.pick [4] []⟩
        · intro hb4
          have H := iteF hb4 H
          refine wp_skip ?_
          refine blk_n ?_
          refine then_n ?_
          refine reg [⟨fV r_i64 s1, [], [(5, none)], []⟩,
              ⟨fV r_i64 (IntKind.i64.wrap (s1 + 1)), [], [(25, some 0)], []⟩,
              ⟨fV r_i64 (IntKind.i64.wrap (s1 + 1)), [], [(26, some 1)], []⟩] [2, 3, 5] [] hAt
              ⟨ok_move rfl opd0,
              ok_add rfl opd0 opdI,
              ok_assign rfl opd0, trivial⟩ (by kernel_rfl) ?_
          clear hAt
          intro a w hAt
          replace hAt : At B h0 (mkG [(2, fRef GInt.rep x0), (3, fRef GInt.rep x1), (5, fV r_i64 (IntKind.i64.wrap (s1 + 1)))]) (mkO []) F 38 a w := hAt
          cases H
          exact ⟨rfl, hAt.pick [2, 3, 5] []⟩
      · intro hb5
        have H := iteF hb5 H
        refine wp_exit ?_
        refine then_x ?_
        cases H
        exact ⟨ex_ne, rfl, hAt.pick [] []⟩
    · exact hAt.pick [2, 3, 5] []
    · clear hAt
      intro e a w hp
      cases o6 with
      | inl l8 =>
        rw [Sum.elim_inl] at H
        obtain ⟨rfl, hAt⟩ := hp
        refine blk_eq ?_
        refine then_n ?_
        refine wp_seq ?_
        refine reg [⟨fV Rep.bool true, [], [], []⟩] [4] [] hAt
            ⟨ok_assign rfl opdB, trivial⟩ (by kernel_rfl) ?_
        clear hAt
        intro a w hAt
        replace hAt : At B h0 (mkG [(4, fV Rep.bool true)]) (mkO []) F 38 a w := hAt
        refine then_n ?_
        refine wp_ret ?_
        cases H
        exact ret1 rfl (rv_tmp rfl rfl) hAt
      | inr r9 =>
        rw [Sum.elim_inr] at H
        replace hp := hp
        obtain ⟨rfl, hAt⟩ := hp
        refine blk_r ?_
        refine then_r ?_
        cases H
        exact ret1 rfl (rv_tmp rfl rfl) hAt
theorem ok_f_base_SameRat (N : Nat) (x0 : GRat) (x1 : GRat) (r : Bool) (H : f_base_SameRat N x0 x1 = some r) : FnOk Try.prog 30 [fV GRat.rep x0, fV GRat.rep x1] (fV Rep.bool r) := by
  unfold f_base_SameRat at H
  refine fn_enter Try.func30 rfl rfl (by kernel_rfl) ?_
  intro κ B h0 F a w hAt
  refine wp_seq ?_
  refine reg [⟨fRef GRat.rep x0, [], [(0, none)], []⟩,
      ⟨fRef GRat.rep x1, [], [(1, none)], []⟩,
      ⟨fV Rep.bool false, [], [], []⟩] [2, 3] [] hAt
      ⟨ok_box rfl opd0,
      ok_box rfl opd0,
      ok_assign rfl opdB, trivial⟩ (by kernel_rfl) ?_
  clear hAt
  intro a w hAt
  replace hAt : At B h0 (mkG [(2, fRef GRat.rep x0), (3, fRef GRat.rep x1)]) (mkO []) F 17 a w := hAt
  refine then_n ?_
  refine wp_seq ?_
  obtain ⟨v1, hv1, H⟩ := bindE H
  obtain ⟨v2, hv2, H⟩ := bindE H
  refine reg [⟨fRef GInt.rep x0.Num, [], [(2, none)], []⟩,
      ⟨fV GInt.rep x0.Num, [], [(5, some 0)], []⟩,
      ⟨fRef GInt.rep x1.Num, [], [(3, none)], []⟩,
      ⟨fV GInt.rep x1.Num, [], [(7, some 2)], []⟩,
      ⟨fV Rep.bool v1, [], [(6, some 1), (8, some 3)], []⟩,
      ⟨fV Rep.bool v1, [], [(9, some 4)], []⟩,
      ⟨Fact.when (v1 = true) (fRef GInt.rep x0.Den), [], [(10, some 5), (2, none)], []⟩,
      ⟨Fact.when (v1 = true) (fV GInt.rep x0.Den), [], [(10, some 5), (11, some 6)], []⟩,
      ⟨Fact.when (v1 = true) (fRef GInt.rep x1.Den), [], [(10, some 5), (3, none)], []⟩,
      ⟨Fact.when (v1 = true) (fV GInt.rep x1.Den), [], [(10, some 5), (13, some 8)], []⟩,
      ⟨Fact.when (v1 = true) (fV Rep.bool v2), [], [(10, some 5), (12, some 7), (14, some 9)], []⟩,
      ⟨fV Rep.bool (v1 && v2), [], [(10, some 5), (15, some 10)], []⟩,
      ⟨fV Rep.bool (v1 && v2), [], [(16, some 11)], []⟩] [4] [] hAt
      ⟨ok_field GRat.l0 fo49_0 rfl opd0,
      ok_load ty47 rfl opd0,
      ok_field GRat.l0 fo49_0 rfl opd0,
      ok_load ty47 rfl opd0,
      ok_call (ok_f_base_SameInt N x0.Num x1.Num _ hv1) Try.func76 (by kernel_rfl) (by kernel_rfl) rfl ⟨opd0, ⟨opd1, trivial⟩⟩,
      ok_move rfl opd0,
      obl_tt rfl rfl rfl rfl rfl rfl rfl (fun hg => ok_field GRat.l1 fo49_1 rfl opd1),
      obl_tt rfl rfl rfl rfl rfl rfl rfl (fun hg => ok_load ty47 rfl (opd1.on hg)),
      obl_tt rfl rfl rfl rfl rfl rfl rfl (fun hg => ok_field GRat.l1 fo49_1 rfl opd1),
      obl_tt rfl rfl rfl rfl rfl rfl rfl (fun hg => ok_load ty47 rfl (opd1.on hg)),
      obl_tt rfl rfl rfl rfl rfl rfl rfl (fun hg => ok_call (ok_f_base_SameInt N x0.Den x1.Den _ (iteT hg hv2)) Try.func76 (by kernel_rfl) (by kernel_rfl) rfl ⟨(opd1.on hg), ⟨(opd2.on hg), trivial⟩⟩),
      ok_and rfl opd0 (fun e => (opd1.on e)),
      ok_assign rfl opd0, trivial⟩ (by kernel_rfl) ?_
  clear hAt
  intro a w hAt
  replace hAt : At B h0 (mkG [(4, fV Rep.bool (v1 && v2))]) (mkO []) F 17 a w := hAt
  refine then_n ?_
  refine wp_ret ?_
  cases H
  exact ret1 rfl (rv_tmp rfl rfl) hAt
theorem ok_f_base_Ints (N : Nat) (x0 : (List Int)) (x1 : (List Int)) (r : Bool) (H : f_base_Ints N x0 x1 = some r) : FnOk Try.prog 23 [fV (Rep.slice r_i64) x0, fV (Rep.slice r_i64) x1] (fV Rep.bool r) := by
  unfold f_base_Ints at H
  refine fn_enter Try.func23 rfl rfl (by kernel_rfl) ?_
  intro κ B h0 F a w hAt
  refine wp_seq ?_
  refine reg [⟨fV Rep.bool false, [], [], []⟩] [0, 1] [] hAt
      ⟨ok_assign rfl opdB, trivial⟩ (by kernel_rfl) ?_
  clear hAt
  intro a w hAt
  replace hAt : At B h0 (mkG [(0, fV (Rep.slice r_i64) x0), (1, fV (Rep.slice r_i64) x1)]) (mkO []) F 26 a w := hAt
  refine then_n ?_
  refine wp_seq ?_
  refine wp_seq ?_
  refine reg [⟨fV (Rep.slice r_i64) x0, [], [(0, none)], []⟩,
      ⟨fV r_i64 (List.length x0 : Int), [], [(6, some 0)], []⟩,
      ⟨fV (Rep.slice r_i64) x1, [], [(1, none)], []⟩,
      ⟨fV r_i64 (List.length x1 : Int), [], [(8, some 2)], []⟩,
      ⟨fV Rep.bool (cmpI .neq (List.length x0 : Int) (List.length x1 : Int)), [], [(7, some 1), (9, some 3)], []⟩] [0, 1, 10] [] hAt
      ⟨ok_move rfl opd0,
      ok_len un22 rfl opd0,
      ok_move rfl opd0,
      ok_len un22 rfl opd0,
      ok_cmp (op := .neq) (by simp) rfl rfl opd0 opd1, trivial⟩ (by kernel_rfl) ?_
  clear hAt
  intro a w hAt
  replace hAt : At B h0 (mkG [(0, fV (Rep.slice r_i64) x0), (1, fV (Rep.slice r_i64) x1), (10, fV Rep.bool (cmpI .neq (List.length x0 : Int) (List.length x1 : Int)))]) (mkO []) F 26 a w := hAt
  refine then_n ?_
  refine wp_if hAt (by rfl) ?_ ?_
  · intro hb11
    have H := iteT hb11 H
    refine wp_seq ?_
    refine reg [⟨fV Rep.bool false, [], [], []⟩] [4] [] hAt
        ⟨ok_assign rfl opdB, trivial⟩ (by kernel_rfl) ?_
    clear hAt
    intro a w hAt
    replace hAt : At B h0 (mkG [(4, fV Rep.bool false)]) (mkO []) F 26 a w := hAt
    refine then_n ?_
    refine wp_ret ?_
    refine then_r ?_
    cases H
    exact ret1 rfl (rv_tmp rfl rfl) hAt
  · intro hb11
    have H := iteF hb11 H
    refine wp_skip ?_
    refine then_n ?_
    refine wp_seq ?_
    refine wp_seq ?_
    refine reg [⟨fV r_i64 0, [], [], []⟩] [0, 1, 5] [] hAt
        ⟨ok_assign rfl opdI, trivial⟩ (by kernel_rfl) ?_
    clear hAt
    intro a w hAt
    replace hAt : At B h0 (mkG [(0, fV (Rep.slice r_i64) x0), (1, fV (Rep.slice r_i64) x1), (5, fV r_i64 0)]) (mkO []) F 26 a w := hAt
    refine then_n ?_
    refine wp_block ?_
    obtain ⟨o6, hl7, H⟩ := bindE H
    refine wp_mono (wp_loopN (f := f_base_Ints_L1 N x0 x1) (fun (s1 : Int) a w => At B h0 (mkG [(0, fV (Rep.slice r_i64) x0), (1, fV (Rep.slice r_i64) x1), (5, fV r_i64 s1)]) (mkO []) F 26 a w) (fun o e a w => (Sum.elim (fun v => e = .exit 0 ∧ At B h0 (mkG []) (mkO []) F 26 a w) (fun v => e = .ret ∧ At B h0 (mkG [(4, fV Rep.bool v)]) (mkO []) F 26 a w)) o) ?_ N 0 o6 _ _ hl7 ?_) ?_
    · clear H hAt hl7
      intro s1 r10 a w H hAt
      unfold f_base_Ints_L1 at H
      refine wp_seq ?_
      refine wp_seq ?_
      refine reg [⟨fV r_i64 s1, [], [(5, none)], []⟩,
          ⟨fV (Rep.slice r_i64) x0, [], [(0, none)], []⟩,
          ⟨fV r_i64 (List.length x0 : Int), [], [(12, some 1)], []⟩,
          ⟨fV Rep.bool (cmpI .lss s1 (List.length x0 : Int)), [], [(11, some 0), (13, some 2)], []⟩] [0, 1, 5, 14] [] hAt
          ⟨ok_move rfl opd0,
          ok_move rfl opd0,
          ok_len un22 rfl opd0,
          ok_cmp (op := .lss) (by simp) rfl rfl opd0 opd1, trivial⟩ (by kernel_rfl) ?_
      clear hAt
      intro a w hAt
      replace hAt : At B h0 (mkG [(0, fV (Rep.slice r_i64) x0), (1, fV (Rep.slice r_i64) x1), (5, fV r_i64 s1), (14, fV Rep.bool (cmpI .lss s1 (List.length x0 : Int)))]) (mkO []) F 26 a w := hAt
      refine then_n ?_
      refine wp_if hAt (by rfl) ?_ ?_
      · intro hb5
        have H := iteT hb5 H
        refine wp_skip ?_
        refine then_n ?_
        refine wp_seq ?_
        refine wp_block ?_
        refine wp_seq ?_
        obtain ⟨v2, hv2, H⟩ := bindE H
        obtain ⟨v3, hv3, H⟩ := bindE H
        refine regd [⟨fV (Rep.slice r_i64) x0, [], [(0, none)], []⟩,
            ⟨fV r_i64 s1, [], [(5, none)], []⟩,
            ⟨fRef r_i64 v2, [], [(17, some 0), (18, some 1)], []⟩,
            ⟨fV r_i64 v2, [], [(19, some 2)], []⟩,
            ⟨fV (Rep.slice r_i64) x1, [], [(1, none)], []⟩,
            ⟨fV r_i64 s1, [], [(5, none)], []⟩,
            ⟨fRef r_i64 v3, [], [(21, some 4), (22, some 5)], []⟩,
            ⟨fV r_i64 v3, [], [(23, some 6)], []⟩,
            ⟨fV Rep.bool (cmpI .neq v2 v3), [], [(20, some 3), (24, some 7)], []⟩] [0, 1, 2, 3, 4, 5, 6, 7, 8] [0, 1, 2, 3, 4, 5, 6, 7, 8] [0, 1, 5, 25] [] hAt
            ⟨ok_move rfl opd0,
            ok_move rfl opd0,
            ok_index ty3 un22 hv2 rfl opd0 opd1,
            ok_load ty3 rfl opd0,
            ok_move rfl opd0,
            ok_move rfl opd0,
            ok_index ty3 un22 hv3 rfl opd0 opd1,
            ok_load ty3 rfl opd0,
            ok_cmp (op := .neq) (by simp) rfl rfl opd0 opd1, trivial⟩ (by kernel_rfl) ?_
        clear hAt
        intro a w hAt
        replace hAt : At B h0 (mkG [(0, fV (Rep.slice r_i64) x0), (1, fV (Rep.slice r_i64) x1), (5, fV r_i64 s1), (25, fV Rep.bool (cmpI .neq v2 v3))]) (mkO []) F 26 a w := hAt
        refine then_n ?_
        refine wp_if hAt (by rfl) ?_ ?_
        · intro hb4
          have H := iteT hb4 H
          refine wp_seq ?_
          refine reg [⟨fV Rep.bool false, [], [], []⟩] [4] [] hAt
              ⟨ok_assign rfl opdB, trivial⟩ (by kernel_rfl) ?_
          clear hAt
          intro a w hAt
          replace hAt : At B h0 (mkG [(4, fV Rep.bool false)]) (mkO []) F 26 a w := hAt
          refine then_n ?_
          refine wp_ret ?_
          refine blk_r ?_
          refine then_r ?_
          cases H
          exact ⟨ret_ne, rfl, hAt.pick [4] []⟩
        · intro hb4
          have H := iteF hb4 H
          refine wp_skip ?_
          refine blk_n ?_
          refine then_n ?_
          refine reg [⟨fV r_i64 s1, [], [(5, none)], []⟩,
              ⟨fV r_i64 (IntKind.i64.wrap (s1 + 1)), [], [(15, some 0)], []⟩,
              ⟨fV r_i64 (IntKind.i64.wrap (s1 + 1)), [], [(16, some 1)], []⟩] [0, 1, 5] [] hAt
              ⟨ok_move rfl opd0,
              ok_add rfl opd0 opdI,
              ok_assign rfl opd0, trivial⟩ (by kernel_rfl) ?_
          clear hAt
          intro a w hAt
          replace hAt : At B h0 (mkG [(0, fV (Rep.slice r_i64) x0), (1, fV (Rep.slice r_i64) x1), (5, fV r_i64 (IntKind.i64.wrap (s1 + 1)))]) (mkO []) F 26 a w := hAt
          cases H
          exact ⟨rfl, hAt.pick [0, 1, 5] []⟩
      · intro hb5
        have H := iteF hb5 H
        refine wp_exit ?_
        refine then_x ?_
        cases H
        exact ⟨ex_ne, rfl, hAt.pick [] []⟩
    · exact hAt.pick [0, 1, 5] []
    · clear hAt
      intro e a w hp
      cases o6 with
      | inl l8 =>
        rw [Sum.elim_inl] at H
        obtain ⟨rfl, hAt⟩ := hp
        refine blk_eq ?_
        refine then_n ?_
        refine wp_seq ?_
        refine reg [⟨fV Rep.bool true, [], [], []⟩] [4] [] hAt
            ⟨ok_assign rfl opdB, trivial⟩ (by kernel_rfl) ?_
        clear hAt
        intro a w hAt
        replace hAt : At B h0 (mkG [(4, fV Rep.bool true)]) (mkO []) F 26 a w := hAt
        refine then_n ?_
        refine wp_ret ?_
        cases H
        exact ret1 rfl (rv_tmp rfl rfl) hAt
      | inr r9 =>
        rw [Sum.elim_inr] at H
        replace hp := hp
        obtain ⟨rfl, hAt⟩ := hp
        refine blk_r ?_
        refine then_r ?_
        cases H
        exact ret1 rfl (rv_tmp rfl rfl) hAt
theorem ok_f_law09_awake (N : Nat) (r : Bool) (H : f_law09_awake N = some r) : FnOk Try.prog 14 [] (fV Rep.bool r) := by
  unfold f_law09_awake at H
  refine fn_enter Try.func14 rfl rfl (by kernel_rfl) ?_
  intro κ B h0 F a w hAt
  refine wp_seq ?_
  refine reg [⟨fV Rep.bool false, [], [], []⟩] [] [] hAt
      ⟨ok_assign rfl opdB, trivial⟩ (by kernel_rfl) ?_
  clear hAt
  intro a w hAt
  replace hAt : At B h0 (mkG []) (mkO []) F 36 a w := hAt
  refine then_n ?_
  refine wp_seq ?_
  obtain ⟨v1, hv1, H⟩ := bindE H
  refine reg [⟨fV GRun.rep (⟨0, 100, 1000, false⟩ : GRun), [], [], []⟩,
      ⟨fV GRun.rep (⟨200, 125, 1000, true⟩ : GRun), [], [], []⟩,
      ⟨fV GRun.rep (⟨400, 100, 1000, false⟩ : GRun), [], [], []⟩,
      ⟨fV (Rep.slice GRun.rep) [(⟨0, 100, 1000, false⟩ : GRun), (⟨200, 125, 1000, true⟩ : GRun), (⟨400, 100, 1000, false⟩ : GRun)], [], [(6, some 0), (7, some 1), (8, some 2)], []⟩,
      ⟨fT2 (fV GRat.rep v1.1) (fV r_i64 v1.2), [], [(9, some 3)], []⟩,
      ⟨fT2 (fV GRat.rep v1.1) (fV r_i64 v1.2), [], [(10, some 4)], []⟩,
      ⟨fV GRat.rep v1.1, [], [(5, some 5)], []⟩,
      ⟨fV r_i64 v1.2, [], [(5, some 5)], []⟩,
      ⟨Fact.triv, [(1, some (boxE 49 GRat.rep (⟨(⟨false, []⟩ : GInt), (⟨false, []⟩ : GInt)⟩ : GRat)))], [], []⟩,
      ⟨Fact.triv, [(1, some (boxE 49 GRat.rep v1.1))], [(11, some 6)], [(1, some 8)]⟩,
      ⟨fV r_i64 v1.2, [], [(12, some 7)], []⟩] [2] [1] hAt
      ⟨ok_build ty131 rfl pl131 rfl (fillC GRun.l0 rfl opdI (fillC GRun.l1 rfl opdI (fillC GRun.l2 rfl opdI fillN))),
      ok_build ty131 rfl pl131 rfl (fillC GRun.l0 rfl opdI (fillC GRun.l1 rfl opdI (fillC GRun.l2 rfl opdI (fillC GRun.l3 rfl opdB fillN)))),
      ok_build ty131 rfl pl131 rfl (fillC GRun.l0 rfl opdI (fillC GRun.l1 rfl opdI (fillC GRun.l2 rfl opdI fillN))),
      ok_buildSlice ty131 un43 rfl rfl (fillC (Lens.arr _ _ 0 (by decide)) rfl opd0 (fillC (Lens.arr _ _ 1 (by decide)) rfl opd1 (fillC (Lens.arr _ _ 2 (by decide)) rfl opd2 fillN))),
      ok_call (ok_f_survey_MeanOfMeans N [(⟨0, 100, 1000, false⟩ : GRun), (⟨200, 125, 1000, true⟩ : GRun), (⟨400, 100, 1000, false⟩ : GRun)] _ hv1) Try.func26 (by kernel_rfl) (by kernel_rfl) rfl ⟨opd0, trivial⟩,
      ok_move rfl opd0,
      ok_ext20 rfl rfl opd0,
      ok_ext21 rfl rfl opd0,
      ok_alloc ty49 rfl rfl,
      ok_storeBox ty49 rfl rfl opd0,
      ok_assign rfl opd0, trivial⟩ (by kernel_rfl) ?_
  clear hAt
  intro a w hAt
  replace hAt : At B h0 (mkG [(2, fV r_i64 v1.2)]) (mkO [(1, boxE 49 GRat.rep v1.1)]) F 36 a w := hAt
  refine then_n ?_
  refine wp_seq ?_
  obtain ⟨v2, hv2, H⟩ := bindE H
  refine reg [⟨fV (Rep.slice r_i64) [950, 800, 0, 700], [], [], []⟩,
      ⟨fV GPanel.rep (⟨([80] : Str), 1, 4, 1000, [950, 800, 0, 700]⟩ : GPanel), [], [(14, some 0)], []⟩,
      ⟨fV GRule.rep (⟨150, 250⟩ : GRule), [], [], []⟩,
      ⟨fT2 (fV (Rep.slice r_i64) v2.1) (fV r_i64 v2.2), [], [(15, some 1), (16, some 2)], []⟩,
      ⟨fT2 (fV (Rep.slice r_i64) v2.1) (fV r_i64 v2.2), [], [(17, some 3)], []⟩,
      ⟨fV (Rep.slice r_i64) v2.1, [], [(13, some 4)], []⟩,
      ⟨fV r_i64 v2.2, [], [(13, some 4)], []⟩,
      ⟨fV (Rep.slice r_i64) v2.1, [], [(18, some 5)], []⟩,
      ⟨fV r_i64 v2.2, [], [(19, some 6)], []⟩] [2, 3, 4] [1] hAt
      ⟨ok_buildSlice ty3 un22 rfl rfl (fillC (Lens.arr _ _ 0 (by decide)) rfl opdI (fillC (Lens.arr _ _ 1 (by decide)) rfl opdI (fillC (Lens.arr _ _ 2 (by decide)) rfl opdI (fillC (Lens.arr _ _ 3 (by decide)) rfl opdI fillN)))),
      ok_build ty24 rfl pl24 rfl (fillC GPanel.l0 rfl (opdS rfl) (fillC GPanel.l1 rfl opdI (fillC GPanel.l2 rfl opdI (fillC GPanel.l3 rfl opdI (fillC GPanel.l4 rfl opd0 fillN))))),
      ok_build ty26 rfl pl26 rfl (fillC GRule.l0 rfl opdI (fillC GRule.l1 rfl opdI fillN)),
      ok_call (ok_f_survey_Grade N (⟨([80] : Str), 1, 4, 1000, [950, 800, 0, 700]⟩ : GPanel) (⟨150, 250⟩ : GRule) _ hv2) Try.func17 (by kernel_rfl) (by kernel_rfl) rfl ⟨opd0, ⟨opd1, trivial⟩⟩,
      ok_move rfl opd0,
      ok_ext20 rfl rfl opd0,
      ok_ext21 rfl rfl opd0,
      ok_assign rfl opd0,
      ok_assign rfl opd0, trivial⟩ (by kernel_rfl) ?_
  clear hAt
  intro a w hAt
  replace hAt : At B h0 (mkG [(2, fV r_i64 v1.2), (3, fV (Rep.slice r_i64) v2.1), (4, fV r_i64 v2.2)]) (mkO [(1, boxE 49 GRat.rep v1.1)]) F 36 a w := hAt
  refine then_n ?_
  refine wp_seq ?_
  obtain ⟨v3, hv3, H⟩ := bindE H
  obtain ⟨v4, hv4, H⟩ := bindE H
  obtain ⟨v5, hv5, H⟩ := bindE H
  refine regd [⟨fV r_i64 v1.2, [], [(2, none)], []⟩,
      ⟨fV Rep.bool (cmpI .eql v1.2 0), [], [(20, some 0)], []⟩,
      ⟨fV Rep.bool (cmpI .eql v1.2 0), [], [(21, some 1)], []⟩,
      ⟨Fact.when ((cmpI .eql v1.2 0) = true) (fV GRat.rep v1.1), [], [(22, some 2)], [(1, none)]⟩,
      ⟨Fact.when ((cmpI .eql v1.2 0) = true) (fV GRat.rep v3), [], [(22, some 2)], []⟩,
      ⟨Fact.when ((cmpI .eql v1.2 0) = true) (fV Rep.bool v4), [], [(22, some 2), (23, some 3), (24, some 4)], []⟩,
      ⟨fV Rep.bool ((cmpI .eql v1.2 0) && v4), [], [(22, some 2), (25, some 5)], []⟩,
      ⟨fV Rep.bool ((cmpI .eql v1.2 0) && v4), [], [(26, some 6)], []⟩,
      ⟨Fact.when (((cmpI .eql v1.2 0) && v4) = true) (fV r_i64 v2.2), [], [(27, some 7), (4, none)], []⟩,
      ⟨Fact.when (((cmpI .eql v1.2 0) && v4) = true) (fV Rep.bool (cmpI .eql v2.2 0)), [], [(27, some 7), (28, some 8)], []⟩,
      ⟨fV Rep.bool (((cmpI .eql v1.2 0) && v4) && (cmpI .eql v2.2 0)), [], [(27, some 7), (29, some 9)], []⟩,
      ⟨fV Rep.bool (((cmpI .eql v1.2 0) && v4) && (cmpI .eql v2.2 0)), [], [(30, some 10)], []⟩,
      ⟨Fact.when ((((cmpI .eql v1.2 0) && v4) && (cmpI .eql v2.2 0)) = true) (fV (Rep.slice r_i64) v2.1), [], [(31, some 11), (3, none)], []⟩,
      ⟨Fact.when ((((cmpI .eql v1.2 0) && v4) && (cmpI .eql v2.2 0)) = true) (fV (Rep.slice r_i64) [1, 2, 0, 3]), [], [(31, some 11)], []⟩,
      ⟨Fact.when ((((cmpI .eql v1.2 0) && v4) && (cmpI .eql v2.2 0)) = true) (fV Rep.bool v5), [], [(31, some 11), (32, some 12), (33, some 13)], []⟩,
      ⟨fV Rep.bool ((((cmpI .eql v1.2 0) && v4) && (cmpI .eql v2.2 0)) && v5), [], [(31, some 11), (34, some 14)], []⟩,
      ⟨fV Rep.bool ((((cmpI .eql v1.2 0) && v4) && (cmpI .eql v2.2 0)) && v5), [], [(35, some 15)], []⟩] [0, 1, 2, 3, 4, 5, 6, 7, 8, 9, 10, 11, 12, 13, 14, 15, 16] [0, 1, 2, 3, 4, 5, 6, 7, 8, 9, 10, 11, 12, 13, 14, 15, 16] [0] [] hAt
      ⟨ok_move rfl opd0,
      ok_cmp (op := .eql) (by simp) rfl rfl opd0 opdI,
      ok_move rfl opd0,
      obl_tt rfl rfl rfl rfl rfl rfl rfl (fun hg => ok_loadBox ty49 rfl),
      obl_tt rfl rfl rfl rfl rfl rfl rfl (fun hg => ok_call (ok_f_base_W N 9 _ (iteT hg hv3)) Try.func37 (by kernel_rfl) (by kernel_rfl) rfl ⟨opdI, trivial⟩),
      obl_tt rfl rfl rfl rfl rfl rfl rfl (fun hg => ok_call (ok_f_base_SameRat N v1.1 v3 _ (iteT hg hv4)) Try.func30 (by kernel_rfl) (by kernel_rfl) rfl ⟨(opd1.on hg), ⟨(opd2.on hg), trivial⟩⟩),
      ok_and rfl opd0 (fun e => (opd1.on e)),
      ok_move rfl opd0,
      obl_tt rfl rfl rfl rfl rfl rfl rfl (fun hg => ok_move rfl opd1),
      obl_tt rfl rfl rfl rfl rfl rfl rfl (fun hg => ok_cmp (op := .eql) (by simp) rfl rfl (opd1.on hg) opdI),
      ok_and rfl opd0 (fun e => (opd1.on e)),
      ok_move rfl opd0,
      obl_tt rfl rfl rfl rfl rfl rfl rfl (fun hg => ok_move rfl opd1),
      obl_tt rfl rfl rfl rfl rfl rfl rfl (fun hg => ok_buildSlice ty3 un22 rfl rfl (fillC (Lens.arr _ _ 0 (by decide)) rfl opdI (fillC (Lens.arr _ _ 1 (by decide)) rfl opdI (fillC (Lens.arr _ _ 2 (by decide)) rfl opdI (fillC (Lens.arr _ _ 3 (by decide)) rfl opdI fillN))))),
      obl_tt rfl rfl rfl rfl rfl rfl rfl (fun hg => ok_call (ok_f_base_Ints N v2.1 [1, 2, 0, 3] _ (iteT hg hv5)) Try.func23 (by kernel_rfl) (by kernel_rfl) rfl ⟨(opd1.on hg), ⟨(opd2.on hg), trivial⟩⟩),
      ok_and rfl opd0 (fun e => (opd1.on e)),
      ok_assign rfl opd0, trivial⟩ (by kernel_rfl) ?_
  clear hAt
  intro a w hAt
  replace hAt : At B h0 (mkG [(0, fV Rep.bool ((((cmpI .eql v1.2 0) && v4) && (cmpI .eql v2.2 0)) && v5))]) (mkO []) F 36 a w := hAt
  refine then_n ?_
  refine wp_ret ?_
  cases H
  exact ret1 rfl (rv_tmp rfl rfl) hAt
end Go.KB
