/- The Go functions compute what the plain functions compute. Printed by a program. No condition. -/
import Derived.Test.YtcpcedbnpieebaaGProof4
namespace Go.KB
open Go.Proofs
set_option maxRecDepth 100000
set_option linter.unusedVariables false
theorem ok_f_survey_Currents (N : Nat) (x0 : (List GRun)) (r : (List GRat) × Int) (H : f_survey_Currents N x0 = some r) : FnOk Try.prog 27 [fV (Rep.slice GRun.rep) x0] (fT2 (fV (Rep.slice GRat.rep) (r.1)) (fV r_i64 (r.2))) := by
  unfold f_survey_Currents at H
  refine fn_enter Try.func27 rfl rfl (by kernel_rfl) ?_
  intro κ B h0 F a w hAt
  refine wp_seq ?_
  refine reg [⟨fV (Rep.slice GRat.rep) [], [(2, some (tipE 49 GRat.rep.sz))], [], []⟩,
      ⟨fV r_i64 0, [], [], []⟩] [0] [] hAt
      ⟨ok_nilTip rfl (.inl rfl),
      ok_assign rfl opdI, trivial⟩ (by kernel_rfl) ?_
  clear hAt
  intro a w hAt
  replace hAt : At B h0 (mkG [(0, fV (Rep.slice GRun.rep) x0)]) (mkO []) F 52 a w := hAt
  refine then_n ?_
  refine wp_seq ?_
  obtain ⟨v1, hv1, H⟩ := bindE H
  refine reg [⟨fV (Rep.slice GRun.rep) x0, [], [(0, none)], []⟩,
      ⟨fT2 (fV GRat.rep v1.1) (fV r_i64 v1.2), [], [(10, some 0)], []⟩,
      ⟨fT2 (fV GRat.rep v1.1) (fV r_i64 v1.2), [], [(11, some 1)], []⟩,
      ⟨fV GRat.rep v1.1, [], [(9, some 2)], []⟩,
      ⟨fV r_i64 v1.2, [], [(9, some 2)], []⟩,
      ⟨Fact.triv, [(4, some (boxE 49 GRat.rep (⟨(⟨false, []⟩ : GInt), (⟨false, []⟩ : GInt)⟩ : GRat)))], [], []⟩,
      ⟨Fact.triv, [(4, some (boxE 49 GRat.rep v1.1))], [(12, some 3)], [(4, some 5)]⟩,
      ⟨fV r_i64 v1.2, [], [(13, some 4)], []⟩] [0, 5] [4] hAt
      ⟨ok_move rfl opd0,
      ok_call (ok_f_survey_MeanOfMeans N x0 _ hv1) Try.func26 (by kernel_rfl) (by kernel_rfl) rfl ⟨opd0, trivial⟩,
      ok_move rfl opd0,
      ok_ext20 rfl rfl opd0,
      ok_ext21 rfl rfl opd0,
      ok_alloc ty49 rfl rfl,
      ok_storeBox ty49 rfl rfl opd0,
      ok_assign rfl opd0, trivial⟩ (by kernel_rfl) ?_
  clear hAt
  intro a w hAt
  replace hAt : At B h0 (mkG [(0, fV (Rep.slice GRun.rep) x0), (5, fV r_i64 v1.2)]) (mkO [(4, boxE 49 GRat.rep v1.1)]) F 52 a w := hAt
  refine then_n ?_
  refine wp_seq ?_
  refine wp_seq ?_
  refine reg [⟨fV r_i64 v1.2, [], [(5, none)], []⟩,
      ⟨fV Rep.bool (cmpI .neq v1.2 0), [], [(14, some 0)], []⟩] [0, 5, 15] [4] hAt
      ⟨ok_move rfl opd0,
      ok_cmp (op := .neq) (by simp) rfl rfl opd0 opdI, trivial⟩ (by kernel_rfl) ?_
  clear hAt
  intro a w hAt
  replace hAt : At B h0 (mkG [(0, fV (Rep.slice GRun.rep) x0), (5, fV r_i64 v1.2), (15, fV Rep.bool (cmpI .neq v1.2 0))]) (mkO [(4, boxE 49 GRat.rep v1.1)]) F 52 a w := hAt
  refine then_n ?_
  refine wp_if hAt (by rfl) ?_ ?_
  · intro hb16
    have H := iteT hb16 H
    refine wp_seq ?_
    refine reg [⟨fV r_i64 v1.2, [], [(5, none)], []⟩,
        ⟨fV (Rep.slice GRat.rep) [], [(2, some (tipE 49 GRat.rep.sz))], [], []⟩,
        ⟨fV r_i64 v1.2, [], [(16, some 0)], []⟩] [2, 3] [2] hAt
        ⟨ok_move rfl opd0,
        ok_nilTip rfl (.inl rfl),
        ok_assign rfl opd0, trivial⟩ (by kernel_rfl) ?_
    clear hAt
    intro a w hAt
    replace hAt : At B h0 (mkG [(2, fV (Rep.slice GRat.rep) []), (3, fV r_i64 v1.2)]) (mkO [(2, tipE 49 GRat.rep.sz)]) F 52 a w := hAt
    refine then_n ?_
    refine wp_ret ?_
    refine then_r ?_
    cases H
    exact ret2 rfl (rv_tmp rfl rfl) (rv_tmp rfl rfl) hAt
  · intro hb16
    have H := iteF hb16 H
    refine wp_skip ?_
    refine then_n ?_
    refine wp_seq ?_
    obtain ⟨v2, hv2, H⟩ := bindE H
    refine reg [⟨fV (Rep.slice GRun.rep) x0, [], [(0, none)], []⟩,
        ⟨fT2 (Fact.triv) (fV r_i64 v2.2), [(19, some (tupE (arrE 49 GRat.rep v2.1)))], [(18, some 0)], []⟩,
        ⟨fT2 (Fact.triv) (fV r_i64 v2.2), [(19, none), (17, some (tupE (arrE 49 GRat.rep v2.1)))], [(19, some 1)], [(19, some 1)]⟩,
        ⟨Fact.triv, [(17, none), (20, some (arrE 49 GRat.rep v2.1))], [(17, some 2)], [(17, some 2)]⟩,
        ⟨fV r_i64 v2.2, [], [(17, some 2)], []⟩,
        ⟨Fact.triv, [(20, none), (6, some (arrE 49 GRat.rep v2.1))], [], [(20, some 3)]⟩,
        ⟨fV r_i64 v2.2, [], [(21, some 4)], []⟩] [0] [4, 6] hAt
        ⟨ok_move rfl opd0,
        ok_callO (okO_f_survey_Speeds N x0 _ hv2) Try.func25 (by kernel_rfl) (by kernel_rfl) rfl rfl ⟨opd0, trivial⟩,
        ok_moveOwn rfl rfl (.inl rfl) opd0,
        ok_ext20O rfl rfl rfl,
        ok_ext21 rfl rfl opd0,
        (ok_moveOwn (f := Fact.triv) rfl rfl (.inr rfl) (fun _ _ _ => trivial)),
        ok_assign rfl opd0, trivial⟩ (by kernel_rfl) ?_
    clear hAt
    intro a w hAt
    replace hAt : At B h0 (mkG [(0, fV (Rep.slice GRun.rep) x0)]) (mkO [(4, boxE 49 GRat.rep v1.1), (6, arrE 49 GRat.rep v2.1)]) F 52 a w := hAt
    refine then_n ?_
    refine wp_seq ?_
    refine wp_seq ?_
    refine reg [⟨fCp 6, [], [], []⟩,
        ⟨fV r_i64 (List.length v2.1 : Int), [], [(22, some 0)], [(6, none)]⟩,
        ⟨fV r_i64 0, [], [], []⟩] [0, 23, 24] [4, 6] hAt
        ⟨ok_cp rfl,
        ok_lenArr un29 rfl opd0,
        ok_move rfl opdI, trivial⟩ (by kernel_rfl) ?_
    clear hAt
    intro a w hAt
    replace hAt : At B h0 (mkG [(0, fV (Rep.slice GRun.rep) x0), (23, fV r_i64 (List.length v2.1 : Int)), (24, fV r_i64 0)]) (mkO [(4, boxE 49 GRat.rep v1.1), (6, arrE 49 GRat.rep v2.1)]) F 52 a w := hAt
    refine then_n ?_
    refine wp_block ?_
    obtain ⟨o13, hl14, H⟩ := bindE H
    refine wp_mono (wp_loopN (f := f_survey_Currents_L1 N x0 v1 v2) (fun (s3 : ((List GRat) × Int)) a w => At B h0 (mkG [(0, fV (Rep.slice GRun.rep) x0), (23, fV r_i64 (List.length v2.1 : Int)), (24, fV r_i64 s3.2)]) (mkO [(4, boxE 49 GRat.rep v1.1), (6, arrE 49 GRat.rep s3.1)]) F 52 a w) (fun o e a w => (fun v => e = .exit 0 ∧ At B h0 (mkG []) (mkO [(6, arrE 49 GRat.rep v)]) F 52 a w) o) ?_ N (v2.1, 0) o13 _ _ hl14 ?_) ?_
    · clear H hAt hl14
      intro s3 r15 a w H hAt
      unfold f_survey_Currents_L1 at H
      refine wp_seq ?_
      refine reg [⟨fV Rep.bool (cmpI .lss s3.2 (List.length v2.1 : Int)), [], [(24, none), (23, none)], []⟩] [0, 23, 24, 25] [4, 6] hAt
          ⟨ok_cmp (op := .lss) (by simp) rfl rfl opd0 opd1, trivial⟩ (by kernel_rfl) ?_
      clear hAt
      intro a w hAt
      replace hAt : At B h0 (mkG [(0, fV (Rep.slice GRun.rep) x0), (23, fV r_i64 (List.length v2.1 : Int)), (24, fV r_i64 s3.2), (25, fV Rep.bool (cmpI .lss s3.2 (List.length v2.1 : Int)))]) (mkO [(4, boxE 49 GRat.rep v1.1), (6, arrE 49 GRat.rep s3.1)]) F 52 a w := hAt
      refine then_n ?_
      refine wp_seq ?_
      refine wp_if hAt (by rfl) ?_ ?_
      · intro hb12
        have H := iteT hb12 H
        refine wp_skip ?_
        refine then_n ?_
        refine wp_seq ?_
        refine wp_block ?_
        refine wp_seq ?_
        refine reg [⟨fV r_i64 s3.2, [], [(24, none)], []⟩,
            ⟨fV r_i64 s3.2, [], [(26, some 0)], []⟩] [0, 8, 23, 24] [4, 6] hAt
            ⟨ok_move rfl opd0,
            ok_assign rfl opd0, trivial⟩ (by kernel_rfl) ?_
        clear hAt
        intro a w hAt
        replace hAt : At B h0 (mkG [(0, fV (Rep.slice GRun.rep) x0), (8, fV r_i64 s3.2), (23, fV r_i64 (List.length v2.1 : Int)), (24, fV r_i64 s3.2)]) (mkO [(4, boxE 49 GRat.rep v1.1), (6, arrE 49 GRat.rep s3.1)]) F 52 a w := hAt
        refine then_n ?_
        refine wp_seq ?_
        obtain ⟨v4, hv4, H⟩ := bindE H
        refine reg [⟨fV (Rep.slice GRun.rep) x0, [], [(0, none)], []⟩,
            ⟨fV r_i64 s3.2, [], [(8, none)], []⟩,
            ⟨fRef GRun.rep v4, [], [(27, some 0), (28, some 1)], []⟩,
            ⟨fRef Rep.bool v4.Back, [], [(29, some 2)], []⟩,
            ⟨fV Rep.bool v4.Back, [], [(30, some 3)], []⟩] [0, 8, 23, 24, 31] [4, 6] hAt
            ⟨ok_move rfl opd0,
            ok_move rfl opd0,
            ok_index ty131 un43 hv4 rfl opd0 opd1,
            ok_field GRun.l3 fo131_3 rfl opd0,
            ok_load ty4 rfl opd0, trivial⟩ (by kernel_rfl) ?_
        clear hAt
        intro a w hAt
        replace hAt : At B h0 (mkG [(0, fV (Rep.slice GRun.rep) x0), (8, fV r_i64 s3.2), (23, fV r_i64 (List.length v2.1 : Int)), (24, fV r_i64 s3.2), (31, fV Rep.bool v4.Back)]) (mkO [(4, boxE 49 GRat.rep v1.1), (6, arrE 49 GRat.rep s3.1)]) F 52 a w := hAt
        refine then_n ?_
        refine wp_if hAt (by rfl) ?_ ?_
        · intro hb11
          have H := iteT hb11 H
          obtain ⟨v5, hv5, H⟩ := bindE H
          obtain ⟨v6, hv6, H⟩ := bindE H
          obtain ⟨v7, hv7, H⟩ := bindE H
          refine regd [⟨fCp 6, [], [], []⟩,
              ⟨fV r_i64 s3.2, [], [(8, none)], []⟩,
              ⟨fV GRat.rep v1.1, [], [], [(4, none)]⟩,
              ⟨fCp 6, [], [], []⟩,
              ⟨fV r_i64 s3.2, [], [(8, none)], []⟩,
              ⟨fEl 6 ((Int.toNat s3.2) * GRat.rep.sz + 0), [], [(35, some 3), (36, some 4)], [(6, none)]⟩,
              ⟨fV GRat.rep v5, [], [(37, some 5)], [(6, none)]⟩,
              ⟨fV GRat.rep v6, [], [(34, some 2), (38, some 6)], []⟩,
              ⟨fEl 6 ((Int.toNat s3.2) * GRat.rep.sz + 0), [], [(32, some 0), (33, some 1)], [(6, none)]⟩,
              ⟨Fact.triv, [(6, some (arrE 49 GRat.rep (List.set s3.1 (Int.toNat s3.2) v6)))], [(40, some 8), (39, some 7)], [(6, none)]⟩] [0, 1, 2, 3, 4, 5, 6, 7, 8, 9] [0, 1, 2, 3, 4, 5, 6, 7, 8, 9] [0, 23, 24] [4, 6] hAt
              ⟨ok_cp rfl,
              ok_move rfl opd0,
              ok_loadBox ty49 rfl,
              ok_cp rfl,
              ok_move rfl opd0,
              ok_elArr hv5 ty49 un29 rfl opd0 opd1,
              ok_loadArr (idx_spec hv5).2.2 (Lens.refl _) ty49 rfl opd0,
              ok_call (ok_f_exact_SubRat N v1.1 v5 _ hv6) Try.func75 (by kernel_rfl) (by kernel_rfl) rfl ⟨opd0, ⟨opd1, trivial⟩⟩,
              ok_elArr hv7 ty49 un29 rfl opd0 opd1,
              ok_storeArr (idx_spec hv7).2.2 (Lens.refl _) ty49 rfl rfl opd0 opd1 rfl, trivial⟩ (by kernel_rfl) ?_
          clear hAt
          intro a w hAt
          replace hAt : At B h0 (mkG [(0, fV (Rep.slice GRun.rep) x0), (23, fV r_i64 (List.length v2.1 : Int)), (24, fV r_i64 s3.2)]) (mkO [(4, boxE 49 GRat.rep v1.1), (6, arrE 49 GRat.rep (List.set s3.1 (Int.toNat s3.2) v6))]) F 52 a w := hAt
          refine blk_n ?_
          refine then_n ?_
          refine reg [⟨fV r_i64 (IntKind.i64.wrap (s3.2 + 1)), [], [(24, none)], []⟩,
              ⟨fV r_i64 (IntKind.i64.wrap (s3.2 + 1)), [], [(50, some 0)], []⟩] [0, 23, 24] [4, 6] hAt
              ⟨ok_add rfl opd0 opdI,
              ok_move rfl opd0, trivial⟩ (by kernel_rfl) ?_
          clear hAt
          intro a w hAt
          replace hAt : At B h0 (mkG [(0, fV (Rep.slice GRun.rep) x0), (23, fV r_i64 (List.length v2.1 : Int)), (24, fV r_i64 (IntKind.i64.wrap (s3.2 + 1)))]) (mkO [(4, boxE 49 GRat.rep v1.1), (6, arrE 49 GRat.rep (List.set s3.1 (Int.toNat s3.2) v6))]) F 52 a w := hAt
          cases H
          exact ⟨rfl, hAt.pick [0, 23, 24] [4, 6]⟩
        · intro hb11
          have H := iteF hb11 H
          obtain ⟨v8, hv8, H⟩ := bindE H
          obtain ⟨v9, hv9, H⟩ := bindE H
          obtain ⟨v10, hv10, H⟩ := bindE H
          refine regd [⟨fCp 6, [], [], []⟩,
              ⟨fV r_i64 s3.2, [], [(8, none)], []⟩,
              ⟨fCp 6, [], [], []⟩,
              ⟨fV r_i64 s3.2, [], [(8, none)], []⟩,
              ⟨fEl 6 ((Int.toNat s3.2) * GRat.rep.sz + 0), [], [(43, some 2), (44, some 3)], [(6, none)]⟩,
              ⟨fV GRat.rep v8, [], [(45, some 4)], [(6, none)]⟩,
              ⟨fV GRat.rep v1.1, [], [], [(4, none)]⟩,
              ⟨fV GRat.rep v9, [], [(46, some 5), (47, some 6)], []⟩,
              ⟨fEl 6 ((Int.toNat s3.2) * GRat.rep.sz + 0), [], [(41, some 0), (42, some 1)], [(6, none)]⟩,
              ⟨Fact.triv, [(6, some (arrE 49 GRat.rep (List.set s3.1 (Int.toNat s3.2) v9)))], [(49, some 8), (48, some 7)], [(6, none)]⟩] [0, 1, 2, 3, 4, 5, 6, 7, 8, 9] [0, 1, 2, 3, 4, 5, 6, 7, 8, 9] [0, 23, 24] [4, 6] hAt
              ⟨ok_cp rfl,
              ok_move rfl opd0,
              ok_cp rfl,
              ok_move rfl opd0,
              ok_elArr hv8 ty49 un29 rfl opd0 opd1,
              ok_loadArr (idx_spec hv8).2.2 (Lens.refl _) ty49 rfl opd0,
              ok_loadBox ty49 rfl,
              ok_call (ok_f_exact_SubRat N v8 v1.1 _ hv9) Try.func75 (by kernel_rfl) (by kernel_rfl) rfl ⟨opd0, ⟨opd1, trivial⟩⟩,
              ok_elArr hv10 ty49 un29 rfl opd0 opd1,
              ok_storeArr (idx_spec hv10).2.2 (Lens.refl _) ty49 rfl rfl opd0 opd1 rfl, trivial⟩ (by kernel_rfl) ?_
          clear hAt
          intro a w hAt
          replace hAt : At B h0 (mkG [(0, fV (Rep.slice GRun.rep) x0), (23, fV r_i64 (List.length v2.1 : Int)), (24, fV r_i64 s3.2)]) (mkO [(4, boxE 49 GRat.rep v1.1), (6, arrE 49 GRat.rep (List.set s3.1 (Int.toNat s3.2) v9))]) F 52 a w := hAt
          refine blk_n ?_
          refine then_n ?_
          refine reg [⟨fV r_i64 (IntKind.i64.wrap (s3.2 + 1)), [], [(24, none)], []⟩,
              ⟨fV r_i64 (IntKind.i64.wrap (s3.2 + 1)), [], [(50, some 0)], []⟩] [0, 23, 24] [4, 6] hAt
              ⟨ok_add rfl opd0 opdI,
              ok_move rfl opd0, trivial⟩ (by kernel_rfl) ?_
          clear hAt
          intro a w hAt
          replace hAt : At B h0 (mkG [(0, fV (Rep.slice GRun.rep) x0), (23, fV r_i64 (List.length v2.1 : Int)), (24, fV r_i64 (IntKind.i64.wrap (s3.2 + 1)))]) (mkO [(4, boxE 49 GRat.rep v1.1), (6, arrE 49 GRat.rep (List.set s3.1 (Int.toNat s3.2) v9))]) F 52 a w := hAt
          cases H
          exact ⟨rfl, hAt.pick [0, 23, 24] [4, 6]⟩
      · intro hb12
        have H := iteF hb12 H
        refine wp_exit ?_
        refine then_x ?_
        cases H
        exact ⟨ex_ne, rfl, hAt.pick [] [6]⟩
    · exact hAt.pick [0, 23, 24] [4, 6]
    · clear hAt
      intro e a w hp
      obtain ⟨rfl, hAt⟩ := hp
      refine blk_eq ?_
      refine then_n ?_
      refine wp_seq ?_
      have hAt := At.freeze 6 hAt rfl
      replace hAt := hAt.pick [6] []
      replace hAt : At B h0 (mkG [(6, fV (Rep.slice GRat.rep) o13)]) (mkO []) F 52 a w := hAt
      refine reg [⟨fV (Rep.slice GRat.rep) o13, [], [(6, none)], []⟩,
          ⟨fV (Rep.slice GRat.rep) o13, [], [(51, some 0)], []⟩,
          ⟨fV r_i64 0, [], [], []⟩] [2, 3] [] hAt
          ⟨ok_move rfl opd0,
          ok_assign rfl opd0,
          ok_assign rfl opdI, trivial⟩ (by kernel_rfl) ?_
      clear hAt
      intro a w hAt
      replace hAt : At B h0 (mkG [(2, fV (Rep.slice GRat.rep) o13), (3, fV r_i64 0)]) (mkO []) F 52 a w := hAt
      refine then_n ?_
      refine wp_ret ?_
      cases H
      exact ret2 rfl (rv_tmp rfl rfl) (rv_tmp rfl rfl) hAt
theorem ok_f_ref09_within (N : Nat) (x0 : Int) (x1 : Int) (x2 : Int) (r : Bool) (H : f_ref09_within N x0 x1 x2 = some r) : FnOk Try.prog 69 [fV r_i64 x0, fV r_i64 x1, fV r_i64 x2] (fV Rep.bool r) := by
  unfold f_ref09_within at H
  refine fn_enter Try.func69 rfl rfl (by kernel_rfl) ?_
  intro κ B h0 F a w hAt
  refine wp_seq ?_
  refine reg [⟨fV Rep.bool false, [], [], []⟩] [0, 1, 2] [] hAt
      ⟨ok_assign rfl opdB, trivial⟩ (by kernel_rfl) ?_
  clear hAt
  intro a w hAt
  replace hAt : At B h0 (mkG [(0, fV r_i64 x0), (1, fV r_i64 x1), (2, fV r_i64 x2)]) (mkO []) F 15 a w := hAt
  refine then_n ?_
  refine wp_seq ?_
  refine reg [⟨fV r_i64 x0, [], [(0, none)], []⟩,
      ⟨fV r_i64 x1, [], [(1, none)], []⟩,
      ⟨fV Rep.bool (cmpI .geq x0 x1), [], [(7, some 0), (8, some 1)], []⟩,
      ⟨fV Rep.bool (cmpI .geq x0 x1), [], [(9, some 2)], []⟩,
      ⟨Fact.when ((cmpI .geq x0 x1) = true) (fV r_i64 x0), [], [(10, some 3), (0, none)], []⟩,
      ⟨Fact.when ((cmpI .geq x0 x1) = true) (fV r_i64 x2), [], [(10, some 3), (2, none)], []⟩,
      ⟨Fact.when ((cmpI .geq x0 x1) = true) (fV Rep.bool (cmpI .leq x0 x2)), [], [(10, some 3), (11, some 4), (12, some 5)], []⟩,
      ⟨fV Rep.bool ((cmpI .geq x0 x1) && (cmpI .leq x0 x2)), [], [(10, some 3), (13, some 6)], []⟩,
      ⟨fV Rep.bool ((cmpI .geq x0 x1) && (cmpI .leq x0 x2)), [], [(14, some 7)], []⟩] [6] [] hAt
      ⟨ok_move rfl opd0,
      ok_move rfl opd0,
      ok_cmp (op := .geq) (by simp) rfl rfl opd0 opd1,
      ok_move rfl opd0,
      obl_tt rfl rfl rfl rfl rfl rfl rfl (fun hg => ok_move rfl opd1),
      obl_tt rfl rfl rfl rfl rfl rfl rfl (fun hg => ok_move rfl opd1),
      obl_tt rfl rfl rfl rfl rfl rfl rfl (fun hg => ok_cmp (op := .leq) (by simp) rfl rfl (opd1.on hg) (opd2.on hg)),
      ok_and rfl opd0 (fun e => (opd1.on e)),
      ok_assign rfl opd0, trivial⟩ (by kernel_rfl) ?_
  clear hAt
  intro a w hAt
  replace hAt : At B h0 (mkG [(6, fV Rep.bool ((cmpI .geq x0 x1) && (cmpI .leq x0 x2)))]) (mkO []) F 15 a w := hAt
  refine then_n ?_
  refine wp_ret ?_
  cases H
  exact ret1 rfl (rv_tmp rfl rfl) hAt
theorem ok_f_ref09_CheckTrial (N : Nat) (x0 : (List GRun)) (r : Int) (H : f_ref09_CheckTrial N x0 = some r) : FnOk Try.prog 28 [fV (Rep.slice GRun.rep) x0] (fV r_i64 r) := by
  unfold f_ref09_CheckTrial at H
  refine fn_enter Try.func28 rfl rfl (by kernel_rfl) ?_
  intro κ B h0 F a w hAt
  refine wp_seq ?_
  refine reg [⟨fV r_i64 0, [], [], []⟩] [0] [] hAt
      ⟨ok_assign rfl opdI, trivial⟩ (by kernel_rfl) ?_
  clear hAt
  intro a w hAt
  replace hAt : At B h0 (mkG [(0, fV (Rep.slice GRun.rep) x0)]) (mkO []) F 88 a w := hAt
  refine then_n ?_
  refine wp_seq ?_
  refine wp_seq ?_
  refine reg [⟨fV (Rep.slice GRun.rep) x0, [], [(0, none)], []⟩,
      ⟨fV r_i64 (List.length x0 : Int), [], [(4, some 0)], []⟩,
      ⟨fV Rep.bool (cmpI .lss (List.length x0 : Int) 2), [], [(5, some 1)], []⟩] [0, 6] [] hAt
      ⟨ok_move rfl opd0,
      ok_len un43 rfl opd0,
      ok_cmp (op := .lss) (by simp) rfl rfl opd0 opdI, trivial⟩ (by kernel_rfl) ?_
  clear hAt
  intro a w hAt
  replace hAt : At B h0 (mkG [(0, fV (Rep.slice GRun.rep) x0), (6, fV Rep.bool (cmpI .lss (List.length x0 : Int) 2))]) (mkO []) F 88 a w := hAt
  refine then_n ?_
  refine wp_if hAt (by rfl) ?_ ?_
  · intro hb26
    have H := iteT hb26 H
    refine wp_seq ?_
    refine reg [⟨fV r_i64 11, [], [], []⟩] [2] [] hAt
        ⟨ok_assign rfl opdI, trivial⟩ (by kernel_rfl) ?_
    clear hAt
    intro a w hAt
    replace hAt : At B h0 (mkG [(2, fV r_i64 11)]) (mkO []) F 88 a w := hAt
    refine then_n ?_
    refine wp_ret ?_
    refine then_r ?_
    cases H
    exact ret1 rfl (rv_tmp rfl rfl) hAt
  · intro hb26
    have H := iteF hb26 H
    refine wp_skip ?_
    refine then_n ?_
    refine wp_seq ?_
    refine wp_seq ?_
    refine reg [⟨fV (Rep.slice GRun.rep) x0, [], [(0, none)], []⟩,
        ⟨fV r_i64 (List.length x0 : Int), [], [(7, some 0)], []⟩,
        ⟨fV Rep.bool (cmpI .gtr (List.length x0 : Int) 12), [], [(8, some 1)], []⟩] [0, 9] [] hAt
        ⟨ok_move rfl opd0,
        ok_len un43 rfl opd0,
        ok_cmp (op := .gtr) (by simp) rfl rfl opd0 opdI, trivial⟩ (by kernel_rfl) ?_
    clear hAt
    intro a w hAt
    replace hAt : At B h0 (mkG [(0, fV (Rep.slice GRun.rep) x0), (9, fV Rep.bool (cmpI .gtr (List.length x0 : Int) 12))]) (mkO []) F 88 a w := hAt
    refine then_n ?_
    refine wp_if hAt (by rfl) ?_ ?_
    · intro hb25
      have H := iteT hb25 H
      refine wp_seq ?_
      refine reg [⟨fV r_i64 8, [], [], []⟩] [2] [] hAt
          ⟨ok_assign rfl opdI, trivial⟩ (by kernel_rfl) ?_
      clear hAt
      intro a w hAt
      replace hAt : At B h0 (mkG [(2, fV r_i64 8)]) (mkO []) F 88 a w := hAt
      refine then_n ?_
      refine wp_ret ?_
      refine then_r ?_
      cases H
      exact ret1 rfl (rv_tmp rfl rfl) hAt
    · intro hb25
      have H := iteF hb25 H
      refine wp_skip ?_
      refine then_n ?_
      refine wp_seq ?_
      refine wp_seq ?_
      refine reg [⟨fV r_i64 0, [], [], []⟩] [0, 3] [] hAt
          ⟨ok_assign rfl opdI, trivial⟩ (by kernel_rfl) ?_
      clear hAt
      intro a w hAt
      replace hAt : At B h0 (mkG [(0, fV (Rep.slice GRun.rep) x0), (3, fV r_i64 0)]) (mkO []) F 88 a w := hAt
      refine then_n ?_
      refine wp_block ?_
      obtain ⟨o20, hl21, H⟩ := bindE H
      refine wp_mono (wp_loopN (f := f_ref09_CheckTrial_L1 N x0) (fun (s1 : Int) a w => At B h0 (mkG [(0, fV (Rep.slice GRun.rep) x0), (3, fV r_i64 s1)]) (mkO []) F 88 a w) (fun o e a w => (Sum.elim (fun v => e = .exit 0 ∧ At B h0 (mkG []) (mkO []) F 88 a w) (fun v => e = .ret ∧ At B h0 (mkG [(2, fV r_i64 v)]) (mkO []) F 88 a w)) o) ?_ N 0 o20 _ _ hl21 ?_) ?_
      · clear H hAt hl21
        intro s1 r24 a w H hAt
        unfold f_ref09_CheckTrial_L1 at H
        refine wp_seq ?_
        refine wp_seq ?_
        refine reg [⟨fV r_i64 s1, [], [(3, none)], []⟩,
            ⟨fV (Rep.slice GRun.rep) x0, [], [(0, none)], []⟩,
            ⟨fV r_i64 (List.length x0 : Int), [], [(11, some 1)], []⟩,
            ⟨fV Rep.bool (cmpI .lss s1 (List.length x0 : Int)), [], [(10, some 0), (12, some 2)], []⟩] [0, 3, 13] [] hAt
            ⟨ok_move rfl opd0,
            ok_move rfl opd0,
            ok_len un43 rfl opd0,
            ok_cmp (op := .lss) (by simp) rfl rfl opd0 opd1, trivial⟩ (by kernel_rfl) ?_
        clear hAt
        intro a w hAt
        replace hAt : At B h0 (mkG [(0, fV (Rep.slice GRun.rep) x0), (3, fV r_i64 s1), (13, fV Rep.bool (cmpI .lss s1 (List.length x0 : Int)))]) (mkO []) F 88 a w := hAt
        refine then_n ?_
        refine wp_if hAt (by rfl) ?_ ?_
        · intro hb19
          have H := iteT hb19 H
          refine wp_skip ?_
          refine then_n ?_
          refine wp_seq ?_
          refine wp_block ?_
          refine wp_seq ?_
          refine wp_seq ?_
          obtain ⟨v2, hv2, H⟩ := bindE H
          obtain ⟨v3, hv3, H⟩ := bindE H
          obtain ⟨v4, hv4, H⟩ := bindE H
          obtain ⟨v5, hv5, H⟩ := bindE H
          obtain ⟨v6, hv6, H⟩ := bindE H
          obtain ⟨v7, hv7, H⟩ := bindE H
          refine reg [⟨fV (Rep.slice GRun.rep) x0, [], [(0, none)], []⟩,
              ⟨fV r_i64 s1, [], [(3, none)], []⟩,
              ⟨fRef GRun.rep v2, [], [(16, some 0), (17, some 1)], []⟩,
              ⟨fRef r_i64 v2.Start, [], [(18, some 2)], []⟩,
              ⟨fV r_i64 v2.Start, [], [(19, some 3)], []⟩,
              ⟨fV Rep.bool v3, [], [(20, some 4)], []⟩,
              ⟨fV Rep.bool (!v3), [], [(21, some 5)], []⟩,
              ⟨fV Rep.bool (!v3), [], [(22, some 6)], []⟩,
              ⟨Fact.when ((!(!v3)) = true) (fV (Rep.slice GRun.rep) x0), [], [(23, some 7), (0, none)], []⟩,
              ⟨Fact.when ((!(!v3)) = true) (fV r_i64 s1), [], [(23, some 7), (3, none)], []⟩,
              ⟨Fact.when ((!(!v3)) = true) (fRef GRun.rep v4), [], [(23, some 7), (24, some 8), (25, some 9)], []⟩,
              ⟨Fact.when ((!(!v3)) = true) (fRef r_i64 v4.Seconds), [], [(23, some 7), (26, some 10)], []⟩,
              ⟨Fact.when ((!(!v3)) = true) (fV r_i64 v4.Seconds), [], [(23, some 7), (27, some 11)], []⟩,
              ⟨Fact.when ((!(!v3)) = true) (fV Rep.bool v5), [], [(23, some 7), (28, some 12)], []⟩,
              ⟨Fact.when ((!(!v3)) = true) (fV Rep.bool (!v5)), [], [(23, some 7), (29, some 13)], []⟩,
              ⟨fV Rep.bool ((!v3) || (!v5)), [], [(23, some 7), (30, some 14)], []⟩,
              ⟨fV Rep.bool ((!v3) || (!v5)), [], [(31, some 15)], []⟩,
              ⟨Fact.when ((!((!v3) || (!v5))) = true) (fV (Rep.slice GRun.rep) x0), [], [(32, some 16), (0, none)], []⟩,
              ⟨Fact.when ((!((!v3) || (!v5))) = true) (fV r_i64 s1), [], [(32, some 16), (3, none)], []⟩,
              ⟨Fact.when ((!((!v3) || (!v5))) = true) (fRef GRun.rep v6), [], [(32, some 16), (33, some 17), (34, some 18)], []⟩,
              ⟨Fact.when ((!((!v3) || (!v5))) = true) (fRef r_i64 v6.Metres), [], [(32, some 16), (35, some 19)], []⟩,
              ⟨Fact.when ((!((!v3) || (!v5))) = true) (fV r_i64 v6.Metres), [], [(32, some 16), (36, some 20)], []⟩,
              ⟨Fact.when ((!((!v3) || (!v5))) = true) (fV Rep.bool v7), [], [(32, some 16), (37, some 21)], []⟩,
              ⟨Fact.when ((!((!v3) || (!v5))) = true) (fV Rep.bool (!v7)), [], [(32, some 16), (38, some 22)], []⟩,
              ⟨fV Rep.bool (((!v3) || (!v5)) || (!v7)), [], [(32, some 16), (39, some 23)], []⟩] [0, 3, 40] [] hAt
              ⟨ok_move rfl opd0,
              ok_move rfl opd0,
              ok_index ty131 un43 hv2 rfl opd0 opd1,
              ok_field GRun.l0 fo131_0 rfl opd0,
              ok_load ty3 rfl opd0,
              ok_call (ok_f_ref09_within N v2.Start 0 1000000 _ hv3) Try.func69 (by kernel_rfl) (by kernel_rfl) rfl ⟨opd0, ⟨opdI, ⟨opdI, trivial⟩⟩⟩,
              ok_not rfl opd0,
              ok_move rfl opd0,
              obl_tf rfl rfl rfl rfl rfl rfl rfl (fun hg => ok_move rfl opd1),
              obl_tf rfl rfl rfl rfl rfl rfl rfl (fun hg => ok_move rfl opd1),
              obl_tf rfl rfl rfl rfl rfl rfl rfl (fun hg => ok_index ty131 un43 (iteT hg hv4) rfl (opd1.on hg) (opd2.on hg)),
              obl_tf rfl rfl rfl rfl rfl rfl rfl (fun hg => ok_field GRun.l1 fo131_1 rfl (opd1.on hg)),
              obl_tf rfl rfl rfl rfl rfl rfl rfl (fun hg => ok_load ty3 rfl (opd1.on hg)),
              obl_tf rfl rfl rfl rfl rfl rfl rfl (fun hg => ok_call (ok_f_ref09_within N v4.Seconds 1 100000 _ (iteT hg hv5)) Try.func69 (by kernel_rfl) (by kernel_rfl) rfl ⟨(opd1.on hg), ⟨opdI, ⟨opdI, trivial⟩⟩⟩),
              obl_tf rfl rfl rfl rfl rfl rfl rfl (fun hg => ok_not rfl (opd1.on hg)),
              ok_or rfl opd0 (fun e => (opd1.on (notT e))),
              ok_move rfl opd0,
              obl_tf rfl rfl rfl rfl rfl rfl rfl (fun hg => ok_move rfl opd1),
              obl_tf rfl rfl rfl rfl rfl rfl rfl (fun hg => ok_move rfl opd1),
              obl_tf rfl rfl rfl rfl rfl rfl rfl (fun hg => ok_index ty131 un43 (iteT hg hv6) rfl (opd1.on hg) (opd2.on hg)),
              obl_tf rfl rfl rfl rfl rfl rfl rfl (fun hg => ok_field GRun.l2 fo131_2 rfl (opd1.on hg)),
              obl_tf rfl rfl rfl rfl rfl rfl rfl (fun hg => ok_load ty3 rfl (opd1.on hg)),
              obl_tf rfl rfl rfl rfl rfl rfl rfl (fun hg => ok_call (ok_f_ref09_within N v6.Metres 1 100000 _ (iteT hg hv7)) Try.func69 (by kernel_rfl) (by kernel_rfl) rfl ⟨(opd1.on hg), ⟨opdI, ⟨opdI, trivial⟩⟩⟩),
              obl_tf rfl rfl rfl rfl rfl rfl rfl (fun hg => ok_not rfl (opd1.on hg)),
              ok_or rfl opd0 (fun e => (opd1.on (notT e))), trivial⟩ (by kernel_rfl) ?_
          clear hAt
          intro a w hAt
          replace hAt : At B h0 (mkG [(0, fV (Rep.slice GRun.rep) x0), (3, fV r_i64 s1), (40, fV Rep.bool (((!v3) || (!v5)) || (!v7)))]) (mkO []) F 88 a w := hAt
          refine then_n ?_
          refine wp_if hAt (by rfl) ?_ ?_
          · intro hb18
            have H := iteT hb18 H
            refine wp_seq ?_
            refine reg [⟨fV r_i64 2, [], [], []⟩] [2] [] hAt
                ⟨ok_assign rfl opdI, trivial⟩ (by kernel_rfl) ?_
            clear hAt
            intro a w hAt
            replace hAt : At B h0 (mkG [(2, fV r_i64 2)]) (mkO []) F 88 a w := hAt
            refine then_n ?_
            refine wp_ret ?_
            refine then_r ?_
            refine blk_r ?_
            refine then_r ?_
            cases H
            exact ⟨ret_ne, rfl, hAt.pick [2] []⟩
          · intro hb18
            have H := iteF hb18 H
            refine wp_skip ?_
            refine then_n ?_
            refine wp_seq ?_
            refine wp_seq ?_
            refine reg [⟨fV r_i64 s1, [], [(3, none)], []⟩,
                ⟨fV Rep.bool (cmpI .eql s1 0), [], [(41, some 0)], []⟩] [0, 3, 42] [] hAt
                ⟨ok_move rfl opd0,
                ok_cmp (op := .eql) (by simp) rfl rfl opd0 opdI, trivial⟩ (by kernel_rfl) ?_
            clear hAt
            intro a w hAt
            replace hAt : At B h0 (mkG [(0, fV (Rep.slice GRun.rep) x0), (3, fV r_i64 s1), (42, fV Rep.bool (cmpI .eql s1 0))]) (mkO []) F 88 a w := hAt
            refine then_n ?_
            refine wp_if hAt (by rfl) ?_ ?_
            · intro hb17
              have H := iteT hb17 H
              refine wp_exit ?_
              refine then_x ?_
              refine blk_eq ?_
              refine then_n ?_
              refine reg [⟨fV r_i64 s1, [], [(3, none)], []⟩,
                  ⟨fV r_i64 (IntKind.i64.wrap (s1 + 1)), [], [(14, some 0)], []⟩,
                  ⟨fV r_i64 (IntKind.i64.wrap (s1 + 1)), [], [(15, some 1)], []⟩] [0, 3] [] hAt
                  ⟨ok_move rfl opd0,
                  ok_add rfl opd0 opdI,
                  ok_assign rfl opd0, trivial⟩ (by kernel_rfl) ?_
              clear hAt
              intro a w hAt
              replace hAt : At B h0 (mkG [(0, fV (Rep.slice GRun.rep) x0), (3, fV r_i64 (IntKind.i64.wrap (s1 + 1)))]) (mkO []) F 88 a w := hAt
              cases H
              exact ⟨rfl, hAt.pick [0, 3] []⟩
            · intro hb17
              have H := iteF hb17 H
              refine wp_skip ?_
              refine then_n ?_
              refine wp_seq ?_
              refine wp_seq ?_
              obtain ⟨v8, hv8, H⟩ := bindE H
              obtain ⟨v9, hv9, H⟩ := bindE H
              refine regd [⟨fV (Rep.slice GRun.rep) x0, [], [(0, none)], []⟩,
                  ⟨fV r_i64 s1, [], [(3, none)], []⟩,
                  ⟨fRef GRun.rep v8, [], [(43, some 0), (44, some 1)], []⟩,
                  ⟨fRef r_i64 v8.Start, [], [(45, some 2)], []⟩,
                  ⟨fV r_i64 v8.Start, [], [(46, some 3)], []⟩,
                  ⟨fV (Rep.slice GRun.rep) x0, [], [(0, none)], []⟩,
                  ⟨fV r_i64 s1, [], [(3, none)], []⟩,
                  ⟨fV r_i64 (IntKind.i64.wrap (s1 - 1)), [], [(49, some 6)], []⟩,
                  ⟨fRef GRun.rep v9, [], [(48, some 5), (50, some 7)], []⟩,
                  ⟨fRef r_i64 v9.Start, [], [(51, some 8)], []⟩,
                  ⟨fV r_i64 v9.Start, [], [(52, some 9)], []⟩,
                  ⟨fV Rep.bool (cmpI .leq v8.Start v9.Start), [], [(47, some 4), (53, some 10)], []⟩] [0, 1, 2, 3, 4, 5, 6, 7, 8, 9, 10, 11] [0, 1, 2, 3, 4, 5, 6, 7, 8, 9, 10, 11] [0, 3, 54] [] hAt
                  ⟨ok_move rfl opd0,
                  ok_move rfl opd0,
                  ok_index ty131 un43 hv8 rfl opd0 opd1,
                  ok_field GRun.l0 fo131_0 rfl opd0,
                  ok_load ty3 rfl opd0,
                  ok_move rfl opd0,
                  ok_move rfl opd0,
                  ok_sub rfl opd0 opdI,
                  ok_index ty131 un43 hv9 rfl opd0 opd1,
                  ok_field GRun.l0 fo131_0 rfl opd0,
                  ok_load ty3 rfl opd0,
                  ok_cmp (op := .leq) (by simp) rfl rfl opd0 opd1, trivial⟩ (by kernel_rfl) ?_
              clear hAt
              intro a w hAt
              replace hAt : At B h0 (mkG [(0, fV (Rep.slice GRun.rep) x0), (3, fV r_i64 s1), (54, fV Rep.bool (cmpI .leq v8.Start v9.Start))]) (mkO []) F 88 a w := hAt
              refine then_n ?_
              refine wp_if hAt (by rfl) ?_ ?_
              · intro hb16
                have H := iteT hb16 H
                refine wp_seq ?_
                refine reg [⟨fV r_i64 10, [], [], []⟩] [2] [] hAt
                    ⟨ok_assign rfl opdI, trivial⟩ (by kernel_rfl) ?_
                clear hAt
                intro a w hAt
                replace hAt : At B h0 (mkG [(2, fV r_i64 10)]) (mkO []) F 88 a w := hAt
                refine then_n ?_
                refine wp_ret ?_
                refine then_r ?_
                refine blk_r ?_
                refine then_r ?_
                cases H
                exact ⟨ret_ne, rfl, hAt.pick [2] []⟩
              · intro hb16
                have H := iteF hb16 H
                refine wp_skip ?_
                refine then_n ?_
                refine wp_seq ?_
                obtain ⟨v10, hv10, H⟩ := bindE H
                obtain ⟨v11, hv11, H⟩ := bindE H
                obtain ⟨v12, hv12, H⟩ := bindE H
                obtain ⟨v13, hv13, H⟩ := bindE H
                obtain ⟨v14, hv14, H⟩ := bindE H
                refine regd (⟨fV (Rep.slice GRun.rep) x0, [], [(0, none)], []⟩ ::
                    ⟨fV r_i64 s1, [], [(3, none)], []⟩ ::
                    ⟨fRef GRun.rep v10, [], [(55, some 0), (56, some 1)], []⟩ ::
                    ⟨fRef r_i64 v10.Start, [], [(57, some 2)], []⟩ ::
                    ⟨fV r_i64 v10.Start, [], [(58, some 3)], []⟩ ::
                    ⟨fV (Rep.slice GRun.rep) x0, [], [(0, none)], []⟩ ::
                    ⟨fV r_i64 s1, [], [(3, none)], []⟩ ::
                    ⟨fV r_i64 (IntKind.i64.wrap (s1 - 1)), [], [(61, some 6)], []⟩ ::
                    ⟨fRef GRun.rep v11, [], [(60, some 5), (62, some 7)], []⟩ ::
                    ⟨fRef r_i64 v11.Start, [], [(63, some 8)], []⟩ ::
                    ⟨fV r_i64 v11.Start, [], [(64, some 9)], []⟩ ::
                    ⟨fV (Rep.slice GRun.rep) x0, [], [(0, none)], []⟩ ::
                    ⟨fV r_i64 s1, [], [(3, none)], []⟩ ::
                    ⟨fV r_i64 (IntKind.i64.wrap (s1 - 1)), [], [(67, some 12)], []⟩ ::
                    ⟨fRef GRun.rep v12, [], [(66, some 11), (68, some 13)], []⟩ ::
                    ⟨fRef r_i64 v12.Seconds, [], [(69, some 14)], []⟩ ::
                    ⟨fV r_i64 v12.Seconds, [], [(70, some 15)], []⟩ ::
                    ⟨fV r_i64 (IntKind.i64.wrap (v11.Start + v12.Seconds)), [], [(65, some 10), (71, some 16)], []⟩ ::
                    ⟨fV Rep.bool (cmpI .lss v10.Start (IntKind.i64.wrap (v11.Start + v12.Seconds))), [], [(59, some 4), (72, some 17)], []⟩ ::
                    ⟨fV Rep.bool (cmpI .lss v10.Start (IntKind.i64.wrap (v11.Start + v12.Seconds))), [], [(73, some 18)], []⟩ ::
                    ⟨Fact.when ((!(cmpI .lss v10.Start (IntKind.i64.wrap (v11.Start + v12.Seconds)))) = true) (fV (Rep.slice GRun.rep) x0), [], [(74, some 19), (0, none)], []⟩ ::
                    ⟨Fact.when ((!(cmpI .lss v10.Start (IntKind.i64.wrap (v11.Start + v12.Seconds)))) = true) (fV r_i64 s1), [], [(74, some 19), (3, none)], []⟩ ::
                    ⟨Fact.when ((!(cmpI .lss v10.Start (IntKind.i64.wrap (v11.Start + v12.Seconds)))) = true) (fRef GRun.rep v13), [], [(74, some 19), (75, some 20), (76, some 21)], []⟩ ::
                    ⟨Fact.when ((!(cmpI .lss v10.Start (IntKind.i64.wrap (v11.Start + v12.Seconds)))) = true) (fRef Rep.bool v13.Back), [], [(74, some 19), (77, some 22)], []⟩ ::
                    ⟨Fact.when ((!(cmpI .lss v10.Start (IntKind.i64.wrap (v11.Start + v12.Seconds)))) = true) (fV Rep.bool v13.Back), [], [(74, some 19), (78, some 23)], []⟩ ::
                    ⟨Fact.when ((!(cmpI .lss v10.Start (IntKind.i64.wrap (v11.Start + v12.Seconds)))) = true) (fV (Rep.slice GRun.rep) x0), [], [(74, some 19), (0, none)], []⟩ ::
                    ⟨Fact.when ((!(cmpI .lss v10.Start (IntKind.i64.wrap (v11.Start + v12.Seconds)))) = true) (fV r_i64 s1), [], [(74, some 19), (3, none)], []⟩ ::
                    ⟨Fact.when ((!(cmpI .lss v10.Start (IntKind.i64.wrap (v11.Start + v12.Seconds)))) = true) (fV r_i64 (IntKind.i64.wrap (s1 - 1))), [], [(74, some 19), (81, some 26)], []⟩ ::
                    ⟨Fact.when ((!(cmpI .lss v10.Start (IntKind.i64.wrap (v11.Start + v12.Seconds)))) = true) (fRef GRun.rep v14), [], [(74, some 19), (80, some 25), (82, some 27)], []⟩ ::
                    ⟨Fact.when ((!(cmpI .lss v10.Start (IntKind.i64.wrap (v11.Start + v12.Seconds)))) = true) (fRef Rep.bool v14.Back), [], [(74, some 19), (83, some 28)], []⟩ ::
                    ⟨Fact.when ((!(cmpI .lss v10.Start (IntKind.i64.wrap (v11.Start + v12.Seconds)))) = true) (fV Rep.bool v14.Back), [], [(74, some 19), (84, some 29)], []⟩ ::
                    ⟨Fact.when ((!(cmpI .lss v10.Start (IntKind.i64.wrap (v11.Start + v12.Seconds)))) = true) (fV Rep.bool (v13.Back == v14.Back)), [], [(74, some 19), (79, some 24), (85, some 30)], []⟩ ::
                    ⟨fV Rep.bool ((cmpI .lss v10.Start (IntKind.i64.wrap (v11.Start + v12.Seconds))) || (v13.Back == v14.Back)), [], [(74, some 19), (86, some 31)], []⟩ :: []) (0 :: 1 :: 2 :: 3 :: 4 :: 5 :: 6 :: 7 :: 8 :: 9 :: 10 :: 11 :: 12 :: 13 :: 14 :: 15 :: 16 :: 17 :: 18 :: 19 :: 20 :: 21 :: 22 :: 23 :: 24 :: 25 :: 26 :: 27 :: 28 :: 29 :: 30 :: 31 :: 32 :: []) (0 :: 1 :: 2 :: 3 :: 4 :: 5 :: 6 :: 7 :: 8 :: 9 :: 10 :: 11 :: 12 :: 13 :: 14 :: 15 :: 16 :: 17 :: 18 :: 19 :: 20 :: 21 :: 22 :: 23 :: 24 :: 25 :: 26 :: 27 :: 28 :: 29 :: 30 :: 31 :: 32 :: []) [0, 3, 87] [] hAt
                    ⟨ok_move rfl opd0,
                    ok_move rfl opd0,
                    ok_index ty131 un43 hv10 rfl opd0 opd1,
                    ok_field GRun.l0 fo131_0 rfl opd0,
                    ok_load ty3 rfl opd0,
                    ok_move rfl opd0,
                    ok_move rfl opd0,
                    ok_sub rfl opd0 opdI,
                    ok_index ty131 un43 hv11 rfl opd0 opd1,
                    ok_field GRun.l0 fo131_0 rfl opd0,
                    ok_load ty3 rfl opd0,
                    ok_move rfl opd0,
                    ok_move rfl opd0,
                    ok_sub rfl opd0 opdI,
                    ok_index ty131 un43 hv12 rfl opd0 opd1,
                    ok_field GRun.l1 fo131_1 rfl opd0,
                    ok_load ty3 rfl opd0,
                    ok_add rfl opd0 opd1,
                    ok_cmp (op := .lss) (by simp) rfl rfl opd0 opd1,
                    ok_move rfl opd0,
                    obl_tf rfl rfl rfl rfl rfl rfl rfl (fun hg => ok_move rfl opd1),
                    obl_tf rfl rfl rfl rfl rfl rfl rfl (fun hg => ok_move rfl opd1),
                    obl_tf rfl rfl rfl rfl rfl rfl rfl (fun hg => ok_index ty131 un43 (iteT hg hv13) rfl (opd1.on hg) (opd2.on hg)),
                    obl_tf rfl rfl rfl rfl rfl rfl rfl (fun hg => ok_field GRun.l3 fo131_3 rfl (opd1.on hg)),
                    obl_tf rfl rfl rfl rfl rfl rfl rfl (fun hg => ok_load ty4 rfl (opd1.on hg)),
                    obl_tf rfl rfl rfl rfl rfl rfl rfl (fun hg => ok_move rfl opd1),
                    obl_tf rfl rfl rfl rfl rfl rfl rfl (fun hg => ok_move rfl opd1),
                    obl_tf rfl rfl rfl rfl rfl rfl rfl (fun hg => ok_sub rfl (opd1.on hg) opdI),
                    obl_tf rfl rfl rfl rfl rfl rfl rfl (fun hg => ok_index ty131 un43 (iteT hg hv14) rfl (opd1.on hg) (opd2.on hg)),
                    obl_tf rfl rfl rfl rfl rfl rfl rfl (fun hg => ok_field GRun.l3 fo131_3 rfl (opd1.on hg)),
                    obl_tf rfl rfl rfl rfl rfl rfl rfl (fun hg => ok_load ty4 rfl (opd1.on hg)),
                    obl_tf rfl rfl rfl rfl rfl rfl rfl (fun hg => ok_eqB un4 rfl (opd1.on hg) (opd2.on hg)),
                    ok_or rfl opd0 (fun e => (opd1.on (notT e))), trivial⟩ (by kernel_rfl) ?_
                clear hAt
                intro a w hAt
                replace hAt : At B h0 (mkG [(0, fV (Rep.slice GRun.rep) x0), (3, fV r_i64 s1), (87, fV Rep.bool ((cmpI .lss v10.Start (IntKind.i64.wrap (v11.Start + v12.Seconds))) || (v13.Back == v14.Back)))]) (mkO []) F 88 a w := hAt
                refine then_n ?_
                refine wp_if hAt (by rfl) ?_ ?_
                · intro hb15
                  have H := iteT hb15 H
                  refine wp_seq ?_
                  refine reg [⟨fV r_i64 17, [], [], []⟩] [2] [] hAt
                      ⟨ok_assign rfl opdI, trivial⟩ (by kernel_rfl) ?_
                  clear hAt
                  intro a w hAt
                  replace hAt : At B h0 (mkG [(2, fV r_i64 17)]) (mkO []) F 88 a w := hAt
                  refine then_n ?_
                  refine wp_ret ?_
                  refine blk_r ?_
                  refine then_r ?_
                  cases H
                  exact ⟨ret_ne, rfl, hAt.pick [2] []⟩
                · intro hb15
                  have H := iteF hb15 H
                  refine wp_skip ?_
                  refine blk_n ?_
                  refine then_n ?_
                  refine reg [⟨fV r_i64 s1, [], [(3, none)], []⟩,
                      ⟨fV r_i64 (IntKind.i64.wrap (s1 + 1)), [], [(14, some 0)], []⟩,
                      ⟨fV r_i64 (IntKind.i64.wrap (s1 + 1)), [], [(15, some 1)], []⟩] [0, 3] [] hAt
                      ⟨ok_move rfl opd0,
                      ok_add rfl opd0 opdI,
                      ok_assign rfl opd0, trivial⟩ (by kernel_rfl) ?_
                  clear hAt
                  intro a w hAt
                  replace hAt : At B h0 (mkG [(0, fV (Rep.slice GRun.rep) x0), (3, fV r_i64 (IntKind.i64.wrap (s1 + 1)))]) (mkO []) F 88 a w := hAt
                  cases H
                  exact ⟨rfl, hAt.pick [0, 3] []⟩
        · intro hb19
          have H := iteF hb19 H
          refine wp_exit ?_
          refine then_x ?_
          cases H
          exact ⟨ex_ne, rfl, hAt.pick [] []⟩
      · exact hAt.pick [0, 3] []
      · clear hAt
        intro e a w hp
        cases o20 with
        | inl l22 =>
          rw [Sum.elim_inl] at H
          obtain ⟨rfl, hAt⟩ := hp
          refine blk_eq ?_
          refine then_n ?_
          refine wp_seq ?_
          refine reg [⟨fV r_i64 0, [], [], []⟩] [2] [] hAt
              ⟨ok_assign rfl opdI, trivial⟩ (by kernel_rfl) ?_
          clear hAt
          intro a w hAt
          replace hAt : At B h0 (mkG [(2, fV r_i64 0)]) (mkO []) F 88 a w := hAt
          refine then_n ?_
          refine wp_ret ?_
          cases H
          exact ret1 rfl (rv_tmp rfl rfl) hAt
        | inr r23 =>
          rw [Sum.elim_inr] at H
          replace hp := hp
          obtain ⟨rfl, hAt⟩ := hp
          refine blk_r ?_
          refine then_r ?_
          cases H
          exact ret1 rfl (rv_tmp rfl rfl) hAt
theorem ok_f_base_Q (N : Nat) (x0 : Int) (x1 : Int) (r : GRat) (H : f_base_Q N x0 x1 = some r) : FnOk Try.prog 72 [fV r_i64 x0, fV r_i64 x1] (fV GRat.rep r) := by
  unfold f_base_Q at H
  refine fn_enter Try.func72 rfl rfl (by kernel_rfl) ?_
  intro κ B h0 F a w hAt
  refine wp_seq ?_
  refine reg [⟨Fact.triv, [(4, some (boxE 49 GRat.rep (⟨(⟨false, []⟩ : GInt), (⟨false, []⟩ : GInt)⟩ : GRat)))], [], []⟩] [0, 1] [4] hAt
      ⟨ok_alloc ty49 rfl rfl, trivial⟩ (by kernel_rfl) ?_
  clear hAt
  intro a w hAt
  replace hAt : At B h0 (mkG [(0, fV r_i64 x0), (1, fV r_i64 x1)]) (mkO [(4, boxE 49 GRat.rep (⟨(⟨false, []⟩ : GInt), (⟨false, []⟩ : GInt)⟩ : GRat))]) F 34 a w := hAt
  refine then_n ?_
  refine wp_seq ?_
  obtain ⟨o2, hl3, H⟩ := bindE H
  refine wp_mono (Q := (fun o e a w => (fun v => e = .normal ∧ At B h0 (mkG [(0, fV r_i64 v.1), (1, fV r_i64 v.2)]) (mkO [(4, boxE 49 GRat.rep (⟨(⟨false, []⟩ : GInt), (⟨false, []⟩ : GInt)⟩ : GRat))]) F 34 a w) o) o2) ?_ ?_
  · clear H
    have H := hl3
    clear hl3
    refine wp_seq ?_
    refine reg [⟨fV r_i64 x1, [], [(1, none)], []⟩,
        ⟨fV Rep.bool (cmpI .lss x1 0), [], [(7, some 0)], []⟩] [0, 1, 8] [4] hAt
        ⟨ok_move rfl opd0,
        ok_cmp (op := .lss) (by simp) rfl rfl opd0 opdI, trivial⟩ (by kernel_rfl) ?_
    clear hAt
    intro a w hAt
    replace hAt : At B h0 (mkG [(0, fV r_i64 x0), (1, fV r_i64 x1), (8, fV Rep.bool (cmpI .lss x1 0))]) (mkO [(4, boxE 49 GRat.rep (⟨(⟨false, []⟩ : GInt), (⟨false, []⟩ : GInt)⟩ : GRat))]) F 34 a w := hAt
    refine then_n ?_
    refine wp_if hAt (by rfl) ?_ ?_
    · intro hb1
      have H := iteT hb1 H
      refine reg [⟨fV r_i64 x0, [], [(0, none)], []⟩,
          ⟨fV r_i64 (IntKind.i64.wrap (0 - x0)), [], [(9, some 0)], []⟩,
          ⟨fV r_i64 x1, [], [(1, none)], []⟩,
          ⟨fV r_i64 (IntKind.i64.wrap (0 - x1)), [], [(11, some 2)], []⟩,
          ⟨fV r_i64 (IntKind.i64.wrap (0 - x0)), [], [(10, some 1)], []⟩,
          ⟨fV r_i64 (IntKind.i64.wrap (0 - x1)), [], [(12, some 3)], []⟩] [0, 1] [4] hAt
          ⟨ok_move rfl opd0,
          ok_neg rfl opd0,
          ok_move rfl opd0,
          ok_neg rfl opd0,
          ok_assign rfl opd0,
          ok_assign rfl opd0, trivial⟩ (by kernel_rfl) ?_
      clear hAt
      intro a w hAt
      replace hAt : At B h0 (mkG [(0, fV r_i64 (IntKind.i64.wrap (0 - x0))), (1, fV r_i64 (IntKind.i64.wrap (0 - x1)))]) (mkO [(4, boxE 49 GRat.rep (⟨(⟨false, []⟩ : GInt), (⟨false, []⟩ : GInt)⟩ : GRat))]) F 34 a w := hAt
      cases H
      exact ⟨rfl, hAt.pick [0, 1] [4]⟩
    · intro hb1
      have H := iteF hb1 H
      refine wp_skip ?_
      cases H
      exact ⟨rfl, hAt.pick [0, 1] [4]⟩
  · clear hAt
    intro e a w hp
    obtain ⟨rfl, hAt⟩ := hp
    refine then_n ?_
    refine wp_seq ?_
    refine reg [⟨fV r_i64 o2.1, [], [(0, none)], []⟩,
        ⟨fV r_i64 o2.2, [], [(1, none)], []⟩,
        ⟨fV r_i64 o2.1, [], [(13, some 0)], []⟩,
        ⟨fV r_i64 o2.2, [], [(14, some 1)], []⟩] [0, 1, 5, 6] [4] hAt
        ⟨ok_move rfl opd0,
        ok_move rfl opd0,
        ok_assign rfl opd0,
        ok_assign rfl opd0, trivial⟩ (by kernel_rfl) ?_
    clear hAt
    intro a w hAt
    replace hAt : At B h0 (mkG [(0, fV r_i64 o2.1), (1, fV r_i64 o2.2), (5, fV r_i64 o2.1), (6, fV r_i64 o2.2)]) (mkO [(4, boxE 49 GRat.rep (⟨(⟨false, []⟩ : GInt), (⟨false, []⟩ : GInt)⟩ : GRat))]) F 34 a w := hAt
    refine then_n ?_
    refine wp_seq ?_
    obtain ⟨o5, hl6, H⟩ := bindE H
    refine wp_mono (Q := (fun o e a w => (fun v => e = .normal ∧ At B h0 (mkG [(0, fV r_i64 o2.1), (1, fV r_i64 o2.2), (5, fV r_i64 v), (6, fV r_i64 o2.2)]) (mkO [(4, boxE 49 GRat.rep (⟨(⟨false, []⟩ : GInt), (⟨false, []⟩ : GInt)⟩ : GRat))]) F 34 a w) o) o5) ?_ ?_
    · clear H
      have H := hl6
      clear hl6
      refine wp_seq ?_
      refine reg [⟨fV r_i64 o2.1, [], [(5, none)], []⟩,
          ⟨fV Rep.bool (cmpI .lss o2.1 0), [], [(15, some 0)], []⟩] [0, 1, 5, 6, 16] [4] hAt
          ⟨ok_move rfl opd0,
          ok_cmp (op := .lss) (by simp) rfl rfl opd0 opdI, trivial⟩ (by kernel_rfl) ?_
      clear hAt
      intro a w hAt
      replace hAt : At B h0 (mkG [(0, fV r_i64 o2.1), (1, fV r_i64 o2.2), (5, fV r_i64 o2.1), (6, fV r_i64 o2.2), (16, fV Rep.bool (cmpI .lss o2.1 0))]) (mkO [(4, boxE 49 GRat.rep (⟨(⟨false, []⟩ : GInt), (⟨false, []⟩ : GInt)⟩ : GRat))]) F 34 a w := hAt
      refine then_n ?_
      refine wp_if hAt (by rfl) ?_ ?_
      · intro hb4
        have H := iteT hb4 H
        refine reg [⟨fV r_i64 o2.1, [], [(5, none)], []⟩,
            ⟨fV r_i64 (IntKind.i64.wrap (0 - o2.1)), [], [(17, some 0)], []⟩,
            ⟨fV r_i64 (IntKind.i64.wrap (0 - o2.1)), [], [(18, some 1)], []⟩] [0, 1, 5, 6] [4] hAt
            ⟨ok_move rfl opd0,
            ok_neg rfl opd0,
            ok_assign rfl opd0, trivial⟩ (by kernel_rfl) ?_
        clear hAt
        intro a w hAt
        replace hAt : At B h0 (mkG [(0, fV r_i64 o2.1), (1, fV r_i64 o2.2), (5, fV r_i64 (IntKind.i64.wrap (0 - o2.1))), (6, fV r_i64 o2.2)]) (mkO [(4, boxE 49 GRat.rep (⟨(⟨false, []⟩ : GInt), (⟨false, []⟩ : GInt)⟩ : GRat))]) F 34 a w := hAt
        cases H
        exact ⟨rfl, hAt.pick [0, 1, 5, 6] [4]⟩
      · intro hb4
        have H := iteF hb4 H
        refine wp_skip ?_
        cases H
        exact ⟨rfl, hAt.pick [0, 1, 5, 6] [4]⟩
    · clear hAt
      intro e a w hp
      obtain ⟨rfl, hAt⟩ := hp
      refine then_n ?_
      refine wp_seq ?_
      refine wp_block ?_
      obtain ⟨o10, hl11, H⟩ := bindE H
      refine wp_mono (wp_loopN (f := f_base_Q_L1 N) (fun (s7 : (Int × Int)) a w => At B h0 (mkG [(0, fV r_i64 o2.1), (1, fV r_i64 o2.2), (5, fV r_i64 s7.1), (6, fV r_i64 s7.2)]) (mkO [(4, boxE 49 GRat.rep (⟨(⟨false, []⟩ : GInt), (⟨false, []⟩ : GInt)⟩ : GRat))]) F 34 a w) (fun o e a w => (fun v => e = .exit 0 ∧ At B h0 (mkG [(0, fV r_i64 o2.1), (1, fV r_i64 o2.2), (5, fV r_i64 v)]) (mkO [(4, boxE 49 GRat.rep (⟨(⟨false, []⟩ : GInt), (⟨false, []⟩ : GInt)⟩ : GRat))]) F 34 a w) o) ?_ N (o5, o2.2) o10 _ _ hl11 ?_) ?_
      · clear H hAt hl11
        intro s7 r16 a w H hAt
        unfold f_base_Q_L1 at H
        refine wp_seq ?_
        refine wp_seq ?_
        refine reg [⟨fV r_i64 s7.2, [], [(6, none)], []⟩,
            ⟨fV Rep.bool (cmpI .gtr s7.2 0), [], [(19, some 0)], []⟩] [0, 1, 5, 6, 20] [4] hAt
            ⟨ok_move rfl opd0,
            ok_cmp (op := .gtr) (by simp) rfl rfl opd0 opdI, trivial⟩ (by kernel_rfl) ?_
        clear hAt
        intro a w hAt
        replace hAt : At B h0 (mkG [(0, fV r_i64 o2.1), (1, fV r_i64 o2.2), (5, fV r_i64 s7.1), (6, fV r_i64 s7.2), (20, fV Rep.bool (cmpI .gtr s7.2 0))]) (mkO [(4, boxE 49 GRat.rep (⟨(⟨false, []⟩ : GInt), (⟨false, []⟩ : GInt)⟩ : GRat))]) F 34 a w := hAt
        refine then_n ?_
        refine wp_if hAt (by rfl) ?_ ?_
        · intro hb9
          have H := iteT hb9 H
          refine wp_skip ?_
          refine then_n ?_
          refine wp_block ?_
          obtain ⟨v8, hv8, H⟩ := bindE H
          refine regd [⟨fV r_i64 s7.2, [], [(6, none)], []⟩,
              ⟨fV r_i64 s7.1, [], [(5, none)], []⟩,
              ⟨fV r_i64 s7.2, [], [(6, none)], []⟩,
              ⟨fV r_i64 v8, [], [(22, some 1), (23, some 2)], []⟩,
              ⟨fV r_i64 s7.2, [], [(21, some 0)], []⟩,
              ⟨fV r_i64 v8, [], [(24, some 3)], []⟩] [0, 1, 2, 3, 4, 5] [0, 1, 2, 3, 4, 5] [0, 1, 5, 6] [4] hAt
              ⟨ok_move rfl opd0,
              ok_move rfl opd0,
              ok_move rfl opd0,
              ok_rem hv8 rfl opd0 opd1,
              ok_assign rfl opd0,
              ok_assign rfl opd0, trivial⟩ (by kernel_rfl) ?_
          clear hAt
          intro a w hAt
          replace hAt : At B h0 (mkG [(0, fV r_i64 o2.1), (1, fV r_i64 o2.2), (5, fV r_i64 s7.2), (6, fV r_i64 v8)]) (mkO [(4, boxE 49 GRat.rep (⟨(⟨false, []⟩ : GInt), (⟨false, []⟩ : GInt)⟩ : GRat))]) F 34 a w := hAt
          refine blk_n ?_
          cases H
          exact ⟨rfl, hAt.pick [0, 1, 5, 6] [4]⟩
        · intro hb9
          have H := iteF hb9 H
          refine wp_exit ?_
          refine then_x ?_
          cases H
          exact ⟨ex_ne, rfl, hAt.pick [0, 1, 5] [4]⟩
      · exact hAt.pick [0, 1, 5, 6] [4]
      · clear hAt
        intro e a w hp
        obtain ⟨rfl, hAt⟩ := hp
        refine blk_eq ?_
        refine then_n ?_
        refine wp_seq ?_
        obtain ⟨v12, hv12, H⟩ := bindE H
        obtain ⟨v13, hv13, H⟩ := bindE H
        obtain ⟨v14, hv14, H⟩ := bindE H
        obtain ⟨v15, hv15, H⟩ := bindE H
        refine regd [⟨fV r_i64 o2.1, [], [(0, none)], []⟩,
            ⟨fV r_i64 o10, [], [(5, none)], []⟩,
            ⟨fV r_i64 v12, [], [(25, some 0), (26, some 1)], []⟩,
            ⟨fV GInt.rep v13, [], [(27, some 2)], []⟩,
            ⟨fV r_i64 o2.2, [], [(1, none)], []⟩,
            ⟨fV r_i64 o10, [], [(5, none)], []⟩,
            ⟨fV r_i64 v14, [], [(29, some 4), (30, some 5)], []⟩,
            ⟨fV GInt.rep v15, [], [(31, some 6)], []⟩,
            ⟨fV GRat.rep (⟨v13, v15⟩ : GRat), [], [(28, some 3), (32, some 7)], []⟩,
            ⟨Fact.triv, [(4, some (boxE 49 GRat.rep (⟨v13, v15⟩ : GRat)))], [(33, some 8)], [(4, none)]⟩] [0, 1, 2, 3, 4, 5, 6, 7, 8, 9] [0, 1, 2, 3, 4, 5, 6, 7, 8, 9] [] [4] hAt
            ⟨ok_move rfl opd0,
            ok_move rfl opd0,
            ok_quo hv12 rfl opd0 opd1,
            ok_call (ok_f_base_Z N v12 _ hv13) Try.func80 (by kernel_rfl) (by kernel_rfl) rfl ⟨opd0, trivial⟩,
            ok_move rfl opd0,
            ok_move rfl opd0,
            ok_quo hv14 rfl opd0 opd1,
            ok_call (ok_f_base_Z N v14 _ hv15) Try.func80 (by kernel_rfl) (by kernel_rfl) rfl ⟨opd0, trivial⟩,
            ok_build ty49 rfl pl49 rfl (fillC GRat.l0 rfl opd0 (fillC GRat.l1 rfl opd1 fillN)),
            ok_storeBox ty49 rfl rfl opd0, trivial⟩ (by kernel_rfl) ?_
        clear hAt
        intro a w hAt
        replace hAt : At B h0 (mkG []) (mkO [(4, boxE 49 GRat.rep (⟨v13, v15⟩ : GRat))]) F 34 a w := hAt
        refine then_n ?_
        refine wp_ret ?_
        cases H
        exact ret1 rfl (rv_cell ty49 rfl) hAt
theorem ok_f_ref09_Speeds (N : Nat) (x0 : (List GRun)) (r : (List GRat)) (H : f_ref09_Speeds N x0 = some r) : FnOk Try.prog 31 [fV (Rep.slice GRun.rep) x0] (fV (Rep.slice GRat.rep) r) := by
  unfold f_ref09_Speeds at H
  refine fn_enter Try.func31 rfl rfl (by kernel_rfl) ?_
  intro κ B h0 F a w hAt
  refine wp_seq ?_
  refine reg [⟨fV (Rep.slice GRat.rep) [], [(2, some (tipE 49 GRat.rep.sz))], [], []⟩] [0] [] hAt
      ⟨ok_nilTip rfl (.inl rfl), trivial⟩ (by kernel_rfl) ?_
  clear hAt
  intro a w hAt
  replace hAt : At B h0 (mkG [(0, fV (Rep.slice GRun.rep) x0)]) (mkO []) F 26 a w := hAt
  refine then_n ?_
  refine wp_seq ?_
  refine reg [⟨fV (Rep.slice GRat.rep) [], [(3, some (tipE 49 GRat.rep.sz))], [], []⟩] [0, 3] [3] hAt
      ⟨ok_nilTip rfl (.inl rfl), trivial⟩ (by kernel_rfl) ?_
  clear hAt
  intro a w hAt
  replace hAt : At B h0 (mkG [(0, fV (Rep.slice GRun.rep) x0), (3, fV (Rep.slice GRat.rep) [])]) (mkO [(3, tipE 49 GRat.rep.sz)]) F 26 a w := hAt
  refine then_n ?_
  refine wp_seq ?_
  refine wp_seq ?_
  refine reg [⟨fV r_i64 0, [], [], []⟩] [0, 3, 4] [3] hAt
      ⟨ok_assign rfl opdI, trivial⟩ (by kernel_rfl) ?_
  clear hAt
  intro a w hAt
  replace hAt : At B h0 (mkG [(0, fV (Rep.slice GRun.rep) x0), (3, fV (Rep.slice GRat.rep) []), (4, fV r_i64 0)]) (mkO [(3, tipE 49 GRat.rep.sz)]) F 26 a w := hAt
  refine then_n ?_
  refine wp_block ?_
  obtain ⟨o7, hl8, H⟩ := bindE H
  refine wp_mono (wp_loopN (f := f_ref09_Speeds_L1 N x0) (fun (s1 : ((List GRat) × Int)) a w => At B h0 (mkG [(0, fV (Rep.slice GRun.rep) x0), (3, fV (Rep.slice GRat.rep) s1.1), (4, fV r_i64 s1.2)]) (mkO [(3, tipE 49 GRat.rep.sz)]) F 26 a w) (fun o e a w => (fun v => e = .exit 0 ∧ At B h0 (mkG [(3, fV (Rep.slice GRat.rep) v)]) (mkO [(3, tipE 49 GRat.rep.sz)]) F 26 a w) o) ?_ N ([], 0) o7 _ _ hl8 ?_) ?_
  · clear H hAt hl8
    intro s1 r9 a w H hAt
    unfold f_ref09_Speeds_L1 at H
    refine wp_seq ?_
    refine wp_seq ?_
    refine reg [⟨fV r_i64 s1.2, [], [(4, none)], []⟩,
        ⟨fV (Rep.slice GRun.rep) x0, [], [(0, none)], []⟩,
        ⟨fV r_i64 (List.length x0 : Int), [], [(6, some 1)], []⟩,
        ⟨fV Rep.bool (cmpI .lss s1.2 (List.length x0 : Int)), [], [(5, some 0), (7, some 2)], []⟩] [0, 3, 4, 8] [3] hAt
        ⟨ok_move rfl opd0,
        ok_move rfl opd0,
        ok_len un43 rfl opd0,
        ok_cmp (op := .lss) (by simp) rfl rfl opd0 opd1, trivial⟩ (by kernel_rfl) ?_
    clear hAt
    intro a w hAt
    replace hAt : At B h0 (mkG [(0, fV (Rep.slice GRun.rep) x0), (3, fV (Rep.slice GRat.rep) s1.1), (4, fV r_i64 s1.2), (8, fV Rep.bool (cmpI .lss s1.2 (List.length x0 : Int)))]) (mkO [(3, tipE 49 GRat.rep.sz)]) F 26 a w := hAt
    refine then_n ?_
    refine wp_if hAt (by rfl) ?_ ?_
    · intro hb6
      have H := iteT hb6 H
      refine wp_skip ?_
      refine then_n ?_
      refine wp_seq ?_
      refine wp_block ?_
      obtain ⟨v2, hv2, H⟩ := bindE H
      obtain ⟨v3, hv3, H⟩ := bindE H
      obtain ⟨v4, hv4, H⟩ := bindE H
      obtain ⟨v5, hv5, H⟩ := bindE H
      refine regd [⟨fV (Rep.slice GRat.rep) s1.1, [(3, none), (11, some (tipE 49 GRat.rep.sz))], [(3, none)], [(3, none)]⟩,
          ⟨fV (Rep.slice GRun.rep) x0, [], [(0, none)], []⟩,
          ⟨fV r_i64 s1.2, [], [(4, none)], []⟩,
          ⟨fRef GRun.rep v2, [], [(12, some 1), (13, some 2)], []⟩,
          ⟨fRef r_i64 v2.Metres, [], [(14, some 3)], []⟩,
          ⟨fV r_i64 v2.Metres, [], [(15, some 4)], []⟩,
          ⟨fV (Rep.slice GRun.rep) x0, [], [(0, none)], []⟩,
          ⟨fV r_i64 s1.2, [], [(4, none)], []⟩,
          ⟨fRef GRun.rep v3, [], [(17, some 6), (18, some 7)], []⟩,
          ⟨fRef r_i64 v3.Seconds, [], [(19, some 8)], []⟩,
          ⟨fV r_i64 v3.Seconds, [], [(20, some 9)], []⟩,
          ⟨fV GRat.rep v4, [], [(16, some 5), (21, some 10)], []⟩,
          ⟨fV (Rep.slice GRat.rep) [v4], [], [(22, some 11)], []⟩,
          ⟨fV (Rep.slice GRat.rep) v5, [(11, none), (24, some (tipE 49 GRat.rep.sz))], [(11, some 0), (23, some 12)], [(11, some 0)]⟩,
          ⟨fV (Rep.slice GRat.rep) v5, [(24, none), (3, some (tipE 49 GRat.rep.sz))], [(24, some 13)], [(24, some 13)]⟩] [0, 1, 2, 3, 4, 5, 6, 7, 8, 9, 10, 11, 12, 13, 14] [0, 1, 2, 3, 4, 5, 6, 7, 8, 9, 10, 11, 12, 13, 14] [0, 3, 4] [3] hAt
          ⟨ok_moveOwn rfl rfl (.inl rfl) opd0,
          ok_move rfl opd0,
          ok_move rfl opd0,
          ok_index ty131 un43 hv2 rfl opd0 opd1,
          ok_field GRun.l2 fo131_2 rfl opd0,
          ok_load ty3 rfl opd0,
          ok_move rfl opd0,
          ok_move rfl opd0,
          ok_index ty131 un43 hv3 rfl opd0 opd1,
          ok_field GRun.l1 fo131_1 rfl opd0,
          ok_load ty3 rfl opd0,
          ok_call (ok_f_base_Q N v2.Metres v3.Seconds _ hv4) Try.func72 (by kernel_rfl) (by kernel_rfl) rfl ⟨opd0, ⟨opd1, trivial⟩⟩,
          ok_buildSlice ty49 un29 rfl rfl (fillC (Lens.arr _ _ 0 (by decide)) rfl opd0 fillN),
          ok_append hv5 el49 un29 rfl rfl rfl opd0 opd1,
          ok_moveOwn rfl rfl (.inr rfl) opd0, trivial⟩ (by kernel_rfl) ?_
      clear hAt
      intro a w hAt
      replace hAt : At B h0 (mkG [(0, fV (Rep.slice GRun.rep) x0), (3, fV (Rep.slice GRat.rep) v5), (4, fV r_i64 s1.2)]) (mkO [(3, tipE 49 GRat.rep.sz)]) F 26 a w := hAt
      refine blk_n ?_
      refine then_n ?_
      refine reg [⟨fV r_i64 s1.2, [], [(4, none)], []⟩,
          ⟨fV r_i64 (IntKind.i64.wrap (s1.2 + 1)), [], [(9, some 0)], []⟩,
          ⟨fV r_i64 (IntKind.i64.wrap (s1.2 + 1)), [], [(10, some 1)], []⟩] [0, 3, 4] [3] hAt
          ⟨ok_move rfl opd0,
          ok_add rfl opd0 opdI,
          ok_assign rfl opd0, trivial⟩ (by kernel_rfl) ?_
      clear hAt
      intro a w hAt
      replace hAt : At B h0 (mkG [(0, fV (Rep.slice GRun.rep) x0), (3, fV (Rep.slice GRat.rep) v5), (4, fV r_i64 (IntKind.i64.wrap (s1.2 + 1)))]) (mkO [(3, tipE 49 GRat.rep.sz)]) F 26 a w := hAt
      cases H
      exact ⟨rfl, hAt.pick [0, 3, 4] [3]⟩
    · intro hb6
      have H := iteF hb6 H
      refine wp_exit ?_
      refine then_x ?_
      cases H
      exact ⟨ex_ne, rfl, hAt.pick [3] [3]⟩
  · exact hAt.pick [0, 3, 4] [3]
  · clear hAt
    intro e a w hp
    obtain ⟨rfl, hAt⟩ := hp
    refine blk_eq ?_
    refine then_n ?_
    refine wp_seq ?_
    refine reg [⟨fV (Rep.slice GRat.rep) o7, [], [(3, none)], []⟩,
        ⟨fV (Rep.slice GRat.rep) o7, [], [(25, some 0)], []⟩] [2] [] hAt
        ⟨ok_move rfl opd0,
        ok_assign rfl opd0, trivial⟩ (by kernel_rfl) ?_
    clear hAt
    intro a w hAt
    replace hAt : At B h0 (mkG [(2, fV (Rep.slice GRat.rep) o7)]) (mkO []) F 26 a w := hAt
    refine then_n ?_
    refine wp_ret ?_
    cases H
    exact ret1 rfl (rv_tmp rfl rfl) hAt
theorem ok_f_base_SameRats (N : Nat) (x0 : (List GRat)) (x1 : (List GRat)) (r : Bool) (H : f_base_SameRats N x0 x1 = some r) : FnOk Try.prog 21 [fV (Rep.slice GRat.rep) x0, fV (Rep.slice GRat.rep) x1] (fV Rep.bool r) := by
  unfold f_base_SameRats at H
  refine fn_enter Try.func21 rfl rfl (by kernel_rfl) ?_
  intro κ B h0 F a w hAt
  refine wp_seq ?_
  refine reg [⟨fV Rep.bool false, [], [], []⟩] [0, 1] [] hAt
      ⟨ok_assign rfl opdB, trivial⟩ (by kernel_rfl) ?_
  clear hAt
  intro a w hAt
  replace hAt : At B h0 (mkG [(0, fV (Rep.slice GRat.rep) x0), (1, fV (Rep.slice GRat.rep) x1)]) (mkO []) F 27 a w := hAt
  refine then_n ?_
  refine wp_seq ?_
  refine wp_seq ?_
  refine reg [⟨fV (Rep.slice GRat.rep) x0, [], [(0, none)], []⟩,
      ⟨fV r_i64 (List.length x0 : Int), [], [(6, some 0)], []⟩,
      ⟨fV (Rep.slice GRat.rep) x1, [], [(1, none)], []⟩,
      ⟨fV r_i64 (List.length x1 : Int), [], [(8, some 2)], []⟩,
      ⟨fV Rep.bool (cmpI .neq (List.length x0 : Int) (List.length x1 : Int)), [], [(7, some 1), (9, some 3)], []⟩] [0, 1, 10] [] hAt
      ⟨ok_move rfl opd0,
      ok_len un29 rfl opd0,
      ok_move rfl opd0,
      ok_len un29 rfl opd0,
      ok_cmp (op := .neq) (by simp) rfl rfl opd0 opd1, trivial⟩ (by kernel_rfl) ?_
  clear hAt
  intro a w hAt
  replace hAt : At B h0 (mkG [(0, fV (Rep.slice GRat.rep) x0), (1, fV (Rep.slice GRat.rep) x1), (10, fV Rep.bool (cmpI .neq (List.length x0 : Int) (List.length x1 : Int)))]) (mkO []) F 27 a w := hAt
  refine then_n ?_
  refine wp_if hAt (by rfl) ?_ ?_
  · intro hb12
    have H := iteT hb12 H
    refine wp_seq ?_
    refine reg [⟨fV Rep.bool false, [], [], []⟩] [4] [] hAt
        ⟨ok_assign rfl opdB, trivial⟩ (by kernel_rfl) ?_
    clear hAt
    intro a w hAt
    replace hAt : At B h0 (mkG [(4, fV Rep.bool false)]) (mkO []) F 27 a w := hAt
    refine then_n ?_
    refine wp_ret ?_
    refine then_r ?_
    cases H
    exact ret1 rfl (rv_tmp rfl rfl) hAt
  · intro hb12
    have H := iteF hb12 H
    refine wp_skip ?_
    refine then_n ?_
    refine wp_seq ?_
    refine wp_seq ?_
    refine reg [⟨fV r_i64 0, [], [], []⟩] [0, 1, 5] [] hAt
        ⟨ok_assign rfl opdI, trivial⟩ (by kernel_rfl) ?_
    clear hAt
    intro a w hAt
    replace hAt : At B h0 (mkG [(0, fV (Rep.slice GRat.rep) x0), (1, fV (Rep.slice GRat.rep) x1), (5, fV r_i64 0)]) (mkO []) F 27 a w := hAt
    refine then_n ?_
    refine wp_block ?_
    obtain ⟨o7, hl8, H⟩ := bindE H
    refine wp_mono (wp_loopN (f := f_base_SameRats_L1 N x0 x1) (fun (s1 : Int) a w => At B h0 (mkG [(0, fV (Rep.slice GRat.rep) x0), (1, fV (Rep.slice GRat.rep) x1), (5, fV r_i64 s1)]) (mkO []) F 27 a w) (fun o e a w => (Sum.elim (fun v => e = .exit 0 ∧ At B h0 (mkG []) (mkO []) F 27 a w) (fun v => e = .ret ∧ At B h0 (mkG [(4, fV Rep.bool v)]) (mkO []) F 27 a w)) o) ?_ N 0 o7 _ _ hl8 ?_) ?_
    · clear H hAt hl8
      intro s1 r11 a w H hAt
      unfold f_base_SameRats_L1 at H
      refine wp_seq ?_
      refine wp_seq ?_
      refine reg [⟨fV r_i64 s1, [], [(5, none)], []⟩,
          ⟨fV (Rep.slice GRat.rep) x0, [], [(0, none)], []⟩,
          ⟨fV r_i64 (List.length x0 : Int), [], [(12, some 1)], []⟩,
          ⟨fV Rep.bool (cmpI .lss s1 (List.length x0 : Int)), [], [(11, some 0), (13, some 2)], []⟩] [0, 1, 5, 14] [] hAt
          ⟨ok_move rfl opd0,
          ok_move rfl opd0,
          ok_len un29 rfl opd0,
          ok_cmp (op := .lss) (by simp) rfl rfl opd0 opd1, trivial⟩ (by kernel_rfl) ?_
      clear hAt
      intro a w hAt
      replace hAt : At B h0 (mkG [(0, fV (Rep.slice GRat.rep) x0), (1, fV (Rep.slice GRat.rep) x1), (5, fV r_i64 s1), (14, fV Rep.bool (cmpI .lss s1 (List.length x0 : Int)))]) (mkO []) F 27 a w := hAt
      refine then_n ?_
      refine wp_if hAt (by rfl) ?_ ?_
      · intro hb6
        have H := iteT hb6 H
        refine wp_skip ?_
        refine then_n ?_
        refine wp_seq ?_
        refine wp_block ?_
        refine wp_seq ?_
        obtain ⟨v2, hv2, H⟩ := bindE H
        obtain ⟨v3, hv3, H⟩ := bindE H
        obtain ⟨v4, hv4, H⟩ := bindE H
        refine regd [⟨fV (Rep.slice GRat.rep) x0, [], [(0, none)], []⟩,
            ⟨fV r_i64 s1, [], [(5, none)], []⟩,
            ⟨fRef GRat.rep v2, [], [(17, some 0), (18, some 1)], []⟩,
            ⟨fV GRat.rep v2, [], [(19, some 2)], []⟩,
            ⟨fV (Rep.slice GRat.rep) x1, [], [(1, none)], []⟩,
            ⟨fV r_i64 s1, [], [(5, none)], []⟩,
            ⟨fRef GRat.rep v3, [], [(21, some 4), (22, some 5)], []⟩,
            ⟨fV GRat.rep v3, [], [(23, some 6)], []⟩,
            ⟨fV Rep.bool v4, [], [(20, some 3), (24, some 7)], []⟩,
            ⟨fV Rep.bool (!v4), [], [(25, some 8)], []⟩] [0, 1, 2, 3, 4, 5, 6, 7, 8, 9] [0, 1, 2, 3, 4, 5, 6, 7, 8, 9] [0, 1, 5, 26] [] hAt
            ⟨ok_move rfl opd0,
            ok_move rfl opd0,
            ok_index ty49 un29 hv2 rfl opd0 opd1,
            ok_load ty49 rfl opd0,
            ok_move rfl opd0,
            ok_move rfl opd0,
            ok_index ty49 un29 hv3 rfl opd0 opd1,
            ok_load ty49 rfl opd0,
            ok_call (ok_f_base_SameRat N v2 v3 _ hv4) Try.func30 (by kernel_rfl) (by kernel_rfl) rfl ⟨opd0, ⟨opd1, trivial⟩⟩,
            ok_not rfl opd0, trivial⟩ (by kernel_rfl) ?_
        clear hAt
        intro a w hAt
        replace hAt : At B h0 (mkG [(0, fV (Rep.slice GRat.rep) x0), (1, fV (Rep.slice GRat.rep) x1), (5, fV r_i64 s1), (26, fV Rep.bool (!v4))]) (mkO []) F 27 a w := hAt
        refine then_n ?_
        refine wp_if hAt (by rfl) ?_ ?_
        · intro hb5
          have H := iteT hb5 H
          refine wp_seq ?_
          refine reg [⟨fV Rep.bool false, [], [], []⟩] [4] [] hAt
              ⟨ok_assign rfl opdB, trivial⟩ (by kernel_rfl) ?_
          clear hAt
          intro a w hAt
          replace hAt : At B h0 (mkG [(4, fV Rep.bool false)]) (mkO []) F 27 a w := hAt
          refine then_n ?_
          refine wp_ret ?_
          refine blk_r ?_
          refine then_r ?_
          cases H
          exact ⟨ret_ne, rfl, hAt.pick [4] []⟩
        · intro hb5
          have H := iteF hb5 H
          refine wp_skip ?_
          refine blk_n ?_
          refine then_n ?_
          refine reg [⟨fV r_i64 s1, [], [(5, none)], []⟩,
              ⟨fV r_i64 (IntKind.i64.wrap (s1 + 1)), [], [(15, some 0)], []⟩,
              ⟨fV r_i64 (IntKind.i64.wrap (s1 + 1)), [], [(16, some 1)], []⟩] [0, 1, 5] [] hAt
              ⟨ok_move rfl opd0,
              ok_add rfl opd0 opdI,
              ok_assign rfl opd0, trivial⟩ (by kernel_rfl) ?_
          clear hAt
          intro a w hAt
          replace hAt : At B h0 (mkG [(0, fV (Rep.slice GRat.rep) x0), (1, fV (Rep.slice GRat.rep) x1), (5, fV r_i64 (IntKind.i64.wrap (s1 + 1)))]) (mkO []) F 27 a w := hAt
          cases H
          exact ⟨rfl, hAt.pick [0, 1, 5] []⟩
      · intro hb6
        have H := iteF hb6 H
        refine wp_exit ?_
        refine then_x ?_
        cases H
        exact ⟨ex_ne, rfl, hAt.pick [] []⟩
    · exact hAt.pick [0, 1, 5] []
    · clear hAt
      intro e a w hp
      cases o7 with
      | inl l9 =>
        rw [Sum.elim_inl] at H
        obtain ⟨rfl, hAt⟩ := hp
        refine blk_eq ?_
        refine then_n ?_
        refine wp_seq ?_
        refine reg [⟨fV Rep.bool true, [], [], []⟩] [4] [] hAt
            ⟨ok_assign rfl opdB, trivial⟩ (by kernel_rfl) ?_
        clear hAt
        intro a w hAt
        replace hAt : At B h0 (mkG [(4, fV Rep.bool true)]) (mkO []) F 27 a w := hAt
        refine then_n ?_
        refine wp_ret ?_
        cases H
        exact ret1 rfl (rv_tmp rfl rfl) hAt
      | inr r10 =>
        rw [Sum.elim_inr] at H
        replace hp := hp
        obtain ⟨rfl, hAt⟩ := hp
        refine blk_r ?_
        refine then_r ?_
        cases H
        exact ret1 rfl (rv_tmp rfl rfl) hAt
theorem ok_f_ref09_Mean (N : Nat) (x0 : (List GRat)) (r : GRat) (H : f_ref09_Mean N x0 = some r) : FnOk Try.prog 32 [fV (Rep.slice GRat.rep) x0] (fV GRat.rep r) := by
  unfold f_ref09_Mean at H
  refine fn_enter Try.func32 rfl rfl (by kernel_rfl) ?_
  intro κ B h0 F a w hAt
  refine wp_seq ?_
  refine reg [⟨Fact.triv, [(2, some (boxE 49 GRat.rep (⟨(⟨false, []⟩ : GInt), (⟨false, []⟩ : GInt)⟩ : GRat)))], [], []⟩] [0] [2] hAt
      ⟨ok_alloc ty49 rfl rfl, trivial⟩ (by kernel_rfl) ?_
  clear hAt
  intro a w hAt
  replace hAt : At B h0 (mkG [(0, fV (Rep.slice GRat.rep) x0)]) (mkO [(2, boxE 49 GRat.rep (⟨(⟨false, []⟩ : GInt), (⟨false, []⟩ : GInt)⟩ : GRat))]) F 33 a w := hAt
  refine then_n ?_
  refine wp_seq ?_
  refine wp_block ?_
  obtain ⟨o14, hl15, H⟩ := bindE H
  refine wp_mono (wp_loopN (f := f_ref09_Mean_L2 N) (fun (s1 : (List GRat)) a w => At B h0 (mkG [(0, fV (Rep.slice GRat.rep) s1)]) (mkO [(2, boxE 49 GRat.rep (⟨(⟨false, []⟩ : GInt), (⟨false, []⟩ : GInt)⟩ : GRat))]) F 33 a w) (fun o e a w => (fun v => e = .exit 0 ∧ At B h0 (mkG [(0, fV (Rep.slice GRat.rep) v)]) (mkO [(2, boxE 49 GRat.rep (⟨(⟨false, []⟩ : GInt), (⟨false, []⟩ : GInt)⟩ : GRat))]) F 33 a w) o) ?_ N x0 o14 _ _ hl15 ?_) ?_
  · clear H hAt hl15
    intro s1 r17 a w H hAt
    unfold f_ref09_Mean_L2 at H
    refine wp_seq ?_
    refine wp_seq ?_
    refine reg [⟨fV (Rep.slice GRat.rep) s1, [], [(0, none)], []⟩,
        ⟨fV r_i64 (List.length s1 : Int), [], [(5, some 0)], []⟩,
        ⟨fV Rep.bool (cmpI .gtr (List.length s1 : Int) 1), [], [(6, some 1)], []⟩] [0, 7] [2] hAt
        ⟨ok_move rfl opd0,
        ok_len un29 rfl opd0,
        ok_cmp (op := .gtr) (by simp) rfl rfl opd0 opdI, trivial⟩ (by kernel_rfl) ?_
    clear hAt
    intro a w hAt
    replace hAt : At B h0 (mkG [(0, fV (Rep.slice GRat.rep) s1), (7, fV Rep.bool (cmpI .gtr (List.length s1 : Int) 1))]) (mkO [(2, boxE 49 GRat.rep (⟨(⟨false, []⟩ : GInt), (⟨false, []⟩ : GInt)⟩ : GRat))]) F 33 a w := hAt
    refine then_n ?_
    refine wp_if hAt (by rfl) ?_ ?_
    · intro hb13
      have H := iteT hb13 H
      refine wp_skip ?_
      refine then_n ?_
      refine wp_block ?_
      refine wp_seq ?_
      refine reg [⟨fV (Rep.slice GRat.rep) [], [(3, some (tipE 49 GRat.rep.sz))], [], []⟩] [0, 3] [2, 3] hAt
          ⟨ok_nilTip rfl (.inl rfl), trivial⟩ (by kernel_rfl) ?_
      clear hAt
      intro a w hAt
      replace hAt : At B h0 (mkG [(0, fV (Rep.slice GRat.rep) s1), (3, fV (Rep.slice GRat.rep) [])]) (mkO [(2, boxE 49 GRat.rep (⟨(⟨false, []⟩ : GInt), (⟨false, []⟩ : GInt)⟩ : GRat)), (3, tipE 49 GRat.rep.sz)]) F 33 a w := hAt
      refine then_n ?_
      refine wp_seq ?_
      refine wp_seq ?_
      refine reg [⟨fV r_i64 1, [], [], []⟩] [0, 3, 4] [2, 3] hAt
          ⟨ok_assign rfl opdI, trivial⟩ (by kernel_rfl) ?_
      clear hAt
      intro a w hAt
      replace hAt : At B h0 (mkG [(0, fV (Rep.slice GRat.rep) s1), (3, fV (Rep.slice GRat.rep) []), (4, fV r_i64 1)]) (mkO [(2, boxE 49 GRat.rep (⟨(⟨false, []⟩ : GInt), (⟨false, []⟩ : GInt)⟩ : GRat)), (3, tipE 49 GRat.rep.sz)]) F 33 a w := hAt
      refine then_n ?_
      refine wp_block ?_
      obtain ⟨o10, hl11, H⟩ := bindE H
      refine wp_mono (wp_loopN (f := f_ref09_Mean_L1 N s1) (fun (s2 : ((List GRat) × Int)) a w => At B h0 (mkG [(0, fV (Rep.slice GRat.rep) s1), (3, fV (Rep.slice GRat.rep) s2.1), (4, fV r_i64 s2.2)]) (mkO [(2, boxE 49 GRat.rep (⟨(⟨false, []⟩ : GInt), (⟨false, []⟩ : GInt)⟩ : GRat)), (3, tipE 49 GRat.rep.sz)]) F 33 a w) (fun o e a w => (fun v => e = .exit 2 ∧ At B h0 (mkG [(3, fV (Rep.slice GRat.rep) v)]) (mkO [(2, boxE 49 GRat.rep (⟨(⟨false, []⟩ : GInt), (⟨false, []⟩ : GInt)⟩ : GRat)), (3, tipE 49 GRat.rep.sz)]) F 33 a w) o) ?_ N ([], 1) o10 _ _ hl11 ?_) ?_
      · clear H hAt hl11
        intro s2 r12 a w H hAt
        unfold f_ref09_Mean_L1 at H
        refine wp_seq ?_
        refine wp_seq ?_
        refine reg [⟨fV r_i64 s2.2, [], [(4, none)], []⟩,
            ⟨fV (Rep.slice GRat.rep) s1, [], [(0, none)], []⟩,
            ⟨fV r_i64 (List.length s1 : Int), [], [(9, some 1)], []⟩,
            ⟨fV Rep.bool (cmpI .lss s2.2 (List.length s1 : Int)), [], [(8, some 0), (10, some 2)], []⟩] [0, 3, 4, 11] [2, 3] hAt
            ⟨ok_move rfl opd0,
            ok_move rfl opd0,
            ok_len un29 rfl opd0,
            ok_cmp (op := .lss) (by simp) rfl rfl opd0 opd1, trivial⟩ (by kernel_rfl) ?_
        clear hAt
        intro a w hAt
        replace hAt : At B h0 (mkG [(0, fV (Rep.slice GRat.rep) s1), (3, fV (Rep.slice GRat.rep) s2.1), (4, fV r_i64 s2.2), (11, fV Rep.bool (cmpI .lss s2.2 (List.length s1 : Int)))]) (mkO [(2, boxE 49 GRat.rep (⟨(⟨false, []⟩ : GInt), (⟨false, []⟩ : GInt)⟩ : GRat)), (3, tipE 49 GRat.rep.sz)]) F 33 a w := hAt
        refine then_n ?_
        refine wp_if hAt (by rfl) ?_ ?_
        · intro hb9
          have H := iteT hb9 H
          refine wp_skip ?_
          refine then_n ?_
          refine wp_seq ?_
          refine wp_block ?_
          obtain ⟨v3, hv3, H⟩ := bindE H
          obtain ⟨v4, hv4, H⟩ := bindE H
          obtain ⟨v5, hv5, H⟩ := bindE H
          obtain ⟨v6, hv6, H⟩ := bindE H
          obtain ⟨v7, hv7, H⟩ := bindE H
          obtain ⟨v8, hv8, H⟩ := bindE H
          refine regd [⟨fV (Rep.slice GRat.rep) s2.1, [(3, none), (14, some (tipE 49 GRat.rep.sz))], [(3, none)], [(3, none)]⟩,
              ⟨fV (Rep.slice GRat.rep) s1, [], [(0, none)], []⟩,
              ⟨fV r_i64 s2.2, [], [(4, none)], []⟩,
              ⟨fV r_i64 (IntKind.i64.wrap (s2.2 - 1)), [], [(16, some 2)], []⟩,
              ⟨fRef GRat.rep v3, [], [(15, some 1), (17, some 3)], []⟩,
              ⟨fV GRat.rep v3, [], [(18, some 4)], []⟩,
              ⟨fV (Rep.slice GRat.rep) s1, [], [(0, none)], []⟩,
              ⟨fV r_i64 s2.2, [], [(4, none)], []⟩,
              ⟨fRef GRat.rep v4, [], [(20, some 6), (21, some 7)], []⟩,
              ⟨fV GRat.rep v4, [], [(22, some 8)], []⟩,
              ⟨fV GRat.rep v5, [], [(19, some 5), (23, some 9)], []⟩,
              ⟨fV GRat.rep v6, [], [], []⟩,
              ⟨fV GRat.rep v7, [], [(24, some 10), (25, some 11)], []⟩,
              ⟨fV (Rep.slice GRat.rep) [v7], [], [(26, some 12)], []⟩,
              ⟨fV (Rep.slice GRat.rep) v8, [(14, none), (28, some (tipE 49 GRat.rep.sz))], [(14, some 0), (27, some 13)], [(14, some 0)]⟩,
              ⟨fV (Rep.slice GRat.rep) v8, [(28, none), (3, some (tipE 49 GRat.rep.sz))], [(28, some 14)], [(28, some 14)]⟩] [0, 1, 2, 3, 4, 5, 6, 7, 8, 9, 10, 11, 12, 13, 14, 15] [0, 1, 2, 3, 4, 5, 6, 7, 8, 9, 10, 11, 12, 13, 14, 15] [0, 3, 4] [2, 3] hAt
              ⟨ok_moveOwn rfl rfl (.inl rfl) opd0,
              ok_move rfl opd0,
              ok_move rfl opd0,
              ok_sub rfl opd0 opdI,
              ok_index ty49 un29 hv3 rfl opd0 opd1,
              ok_load ty49 rfl opd0,
              ok_move rfl opd0,
              ok_move rfl opd0,
              ok_index ty49 un29 hv4 rfl opd0 opd1,
              ok_load ty49 rfl opd0,
              ok_call (ok_f_ref01_AddRat N v3 v4 _ hv5) Try.func78 (by kernel_rfl) (by kernel_rfl) rfl ⟨opd0, ⟨opd1, trivial⟩⟩,
              ok_call (ok_f_base_W N 2 _ hv6) Try.func37 (by kernel_rfl) (by kernel_rfl) rfl ⟨opdI, trivial⟩,
              ok_call (ok_f_ref01_QuoRat N v5 v6 _ hv7) Try.func77 (by kernel_rfl) (by kernel_rfl) rfl ⟨opd0, ⟨opd1, trivial⟩⟩,
              ok_buildSlice ty49 un29 rfl rfl (fillC (Lens.arr _ _ 0 (by decide)) rfl opd0 fillN),
              ok_append hv8 el49 un29 rfl rfl rfl opd0 opd1,
              ok_moveOwn rfl rfl (.inr rfl) opd0, trivial⟩ (by kernel_rfl) ?_
          clear hAt
          intro a w hAt
          replace hAt : At B h0 (mkG [(0, fV (Rep.slice GRat.rep) s1), (3, fV (Rep.slice GRat.rep) v8), (4, fV r_i64 s2.2)]) (mkO [(2, boxE 49 GRat.rep (⟨(⟨false, []⟩ : GInt), (⟨false, []⟩ : GInt)⟩ : GRat)), (3, tipE 49 GRat.rep.sz)]) F 33 a w := hAt
          refine blk_n ?_
          refine then_n ?_
          refine reg [⟨fV r_i64 s2.2, [], [(4, none)], []⟩,
              ⟨fV r_i64 (IntKind.i64.wrap (s2.2 + 1)), [], [(12, some 0)], []⟩,
              ⟨fV r_i64 (IntKind.i64.wrap (s2.2 + 1)), [], [(13, some 1)], []⟩] [0, 3, 4] [2, 3] hAt
              ⟨ok_move rfl opd0,
              ok_add rfl opd0 opdI,
              ok_assign rfl opd0, trivial⟩ (by kernel_rfl) ?_
          clear hAt
          intro a w hAt
          replace hAt : At B h0 (mkG [(0, fV (Rep.slice GRat.rep) s1), (3, fV (Rep.slice GRat.rep) v8), (4, fV r_i64 (IntKind.i64.wrap (s2.2 + 1)))]) (mkO [(2, boxE 49 GRat.rep (⟨(⟨false, []⟩ : GInt), (⟨false, []⟩ : GInt)⟩ : GRat)), (3, tipE 49 GRat.rep.sz)]) F 33 a w := hAt
          cases H
          exact ⟨rfl, hAt.pick [0, 3, 4] [2, 3]⟩
        · intro hb9
          have H := iteF hb9 H
          refine wp_exit ?_
          refine then_x ?_
          cases H
          exact ⟨ex_ne, rfl, hAt.pick [3] [2, 3]⟩
      · exact hAt.pick [0, 3, 4] [2, 3]
      · clear hAt
        intro e a w hp
        obtain ⟨rfl, hAt⟩ := hp
        refine blk_eq ?_
        refine then_n ?_
        refine reg [⟨fV (Rep.slice GRat.rep) o10, [], [(3, none)], []⟩,
            ⟨fV (Rep.slice GRat.rep) o10, [], [(29, some 0)], []⟩] [0] [2] hAt
            ⟨ok_move rfl opd0,
            ok_assign rfl opd0, trivial⟩ (by kernel_rfl) ?_
        clear hAt
        intro a w hAt
        replace hAt : At B h0 (mkG [(0, fV (Rep.slice GRat.rep) o10)]) (mkO [(2, boxE 49 GRat.rep (⟨(⟨false, []⟩ : GInt), (⟨false, []⟩ : GInt)⟩ : GRat))]) F 33 a w := hAt
        refine blk_n ?_
        cases H
        exact ⟨rfl, hAt.pick [0] [2]⟩
    · intro hb13
      have H := iteF hb13 H
      refine wp_exit ?_
      refine then_x ?_
      cases H
      exact ⟨ex_ne, rfl, hAt.pick [0] [2]⟩
  · exact hAt.pick [0] [2]
  · clear hAt
    intro e a w hp
    obtain ⟨rfl, hAt⟩ := hp
    refine blk_eq ?_
    refine then_n ?_
    refine wp_seq ?_
    obtain ⟨v16, hv16, H⟩ := bindE H
    refine reg [⟨fV (Rep.slice GRat.rep) o14, [], [(0, none)], []⟩,
        ⟨fRef GRat.rep v16, [], [(30, some 0)], []⟩,
        ⟨fV GRat.rep v16, [], [(31, some 1)], []⟩,
        ⟨Fact.triv, [(2, some (boxE 49 GRat.rep v16))], [(32, some 2)], [(2, none)]⟩] [] [2] hAt
        ⟨ok_move rfl opd0,
        ok_index ty49 un29 hv16 rfl opd0 opdI,
        ok_load ty49 rfl opd0,
        ok_storeBox ty49 rfl rfl opd0, trivial⟩ (by kernel_rfl) ?_
    clear hAt
    intro a w hAt
    replace hAt : At B h0 (mkG []) (mkO [(2, boxE 49 GRat.rep v16)]) F 33 a w := hAt
    refine then_n ?_
    refine wp_ret ?_
    cases H
    exact ret1 rfl (rv_cell ty49 rfl) hAt
theorem ok_f_ref09_Currents (N : Nat) (x0 : (List GRun)) (r : (List GRat)) (H : f_ref09_Currents N x0 = some r) : FnOk Try.prog 33 [fV (Rep.slice GRun.rep) x0] (fV (Rep.slice GRat.rep) r) := by
  unfold f_ref09_Currents at H
  refine fn_enter Try.func33 rfl rfl (by kernel_rfl) ?_
  intro κ B h0 F a w hAt
  refine wp_seq ?_
  refine reg [⟨fV (Rep.slice GRat.rep) [], [(2, some (tipE 49 GRat.rep.sz))], [], []⟩] [0] [] hAt
      ⟨ok_nilTip rfl (.inl rfl), trivial⟩ (by kernel_rfl) ?_
  clear hAt
  intro a w hAt
  replace hAt : At B h0 (mkG [(0, fV (Rep.slice GRun.rep) x0)]) (mkO []) F 41 a w := hAt
  refine then_n ?_
  refine wp_seq ?_
  obtain ⟨v1, hv1, H⟩ := bindE H
  refine reg [⟨fV (Rep.slice GRun.rep) x0, [], [(0, none)], []⟩,
      ⟨fV (Rep.slice GRat.rep) v1, [], [(7, some 0)], []⟩,
      ⟨fV (Rep.slice GRat.rep) v1, [], [(8, some 1)], []⟩] [0, 3] [] hAt
      ⟨ok_move rfl opd0,
      ok_call (ok_f_ref09_Speeds N x0 _ hv1) Try.func31 (by kernel_rfl) (by kernel_rfl) rfl ⟨opd0, trivial⟩,
      ok_assign rfl opd0, trivial⟩ (by kernel_rfl) ?_
  clear hAt
  intro a w hAt
  replace hAt : At B h0 (mkG [(0, fV (Rep.slice GRun.rep) x0), (3, fV (Rep.slice GRat.rep) v1)]) (mkO []) F 41 a w := hAt
  refine then_n ?_
  refine wp_seq ?_
  obtain ⟨v2, hv2, H⟩ := bindE H
  refine reg [⟨fV (Rep.slice GRat.rep) v1, [], [(3, none)], []⟩,
      ⟨fV GRat.rep v2, [], [(9, some 0)], []⟩,
      ⟨Fact.triv, [(4, some (boxE 49 GRat.rep (⟨(⟨false, []⟩ : GInt), (⟨false, []⟩ : GInt)⟩ : GRat)))], [], []⟩,
      ⟨Fact.triv, [(4, some (boxE 49 GRat.rep v2))], [(10, some 1)], [(4, some 2)]⟩] [0, 3] [4] hAt
      ⟨ok_move rfl opd0,
      ok_call (ok_f_ref09_Mean N v1 _ hv2) Try.func32 (by kernel_rfl) (by kernel_rfl) rfl ⟨opd0, trivial⟩,
      ok_alloc ty49 rfl rfl,
      ok_storeBox ty49 rfl rfl opd0, trivial⟩ (by kernel_rfl) ?_
  clear hAt
  intro a w hAt
  replace hAt : At B h0 (mkG [(0, fV (Rep.slice GRun.rep) x0), (3, fV (Rep.slice GRat.rep) v1)]) (mkO [(4, boxE 49 GRat.rep v2)]) F 41 a w := hAt
  refine then_n ?_
  refine wp_seq ?_
  refine reg [⟨fV (Rep.slice GRat.rep) [], [(5, some (tipE 49 GRat.rep.sz))], [], []⟩] [0, 3, 5] [4, 5] hAt
      ⟨ok_nilTip rfl (.inl rfl), trivial⟩ (by kernel_rfl) ?_
  clear hAt
  intro a w hAt
  replace hAt : At B h0 (mkG [(0, fV (Rep.slice GRun.rep) x0), (3, fV (Rep.slice GRat.rep) v1), (5, fV (Rep.slice GRat.rep) [])]) (mkO [(4, boxE 49 GRat.rep v2), (5, tipE 49 GRat.rep.sz)]) F 41 a w := hAt
  refine then_n ?_
  refine wp_seq ?_
  refine wp_seq ?_
  refine reg [⟨fV r_i64 0, [], [], []⟩] [0, 3, 5, 6] [4, 5] hAt
      ⟨ok_assign rfl opdI, trivial⟩ (by kernel_rfl) ?_
  clear hAt
  intro a w hAt
  replace hAt : At B h0 (mkG [(0, fV (Rep.slice GRun.rep) x0), (3, fV (Rep.slice GRat.rep) v1), (5, fV (Rep.slice GRat.rep) []), (6, fV r_i64 0)]) (mkO [(4, boxE 49 GRat.rep v2), (5, tipE 49 GRat.rep.sz)]) F 41 a w := hAt
  refine then_n ?_
  refine wp_block ?_
  obtain ⟨o13, hl14, H⟩ := bindE H
  refine wp_mono (wp_loopN (f := f_ref09_Currents_L1 N x0 v1 v2) (fun (s3 : ((List GRat) × Int)) a w => At B h0 (mkG [(0, fV (Rep.slice GRun.rep) x0), (3, fV (Rep.slice GRat.rep) v1), (5, fV (Rep.slice GRat.rep) s3.1), (6, fV r_i64 s3.2)]) (mkO [(4, boxE 49 GRat.rep v2), (5, tipE 49 GRat.rep.sz)]) F 41 a w) (fun o e a w => (fun v => e = .exit 0 ∧ At B h0 (mkG [(5, fV (Rep.slice GRat.rep) v)]) (mkO [(5, tipE 49 GRat.rep.sz)]) F 41 a w) o) ?_ N ([], 0) o13 _ _ hl14 ?_) ?_
  · clear H hAt hl14
    intro s3 r15 a w H hAt
    unfold f_ref09_Currents_L1 at H
    refine wp_seq ?_
    refine wp_seq ?_
    refine reg [⟨fV r_i64 s3.2, [], [(6, none)], []⟩,
        ⟨fV (Rep.slice GRat.rep) v1, [], [(3, none)], []⟩,
        ⟨fV r_i64 (List.length v1 : Int), [], [(12, some 1)], []⟩,
        ⟨fV Rep.bool (cmpI .lss s3.2 (List.length v1 : Int)), [], [(11, some 0), (13, some 2)], []⟩] [0, 3, 5, 6, 14] [4, 5] hAt
        ⟨ok_move rfl opd0,
        ok_move rfl opd0,
        ok_len un29 rfl opd0,
        ok_cmp (op := .lss) (by simp) rfl rfl opd0 opd1, trivial⟩ (by kernel_rfl) ?_
    clear hAt
    intro a w hAt
    replace hAt : At B h0 (mkG [(0, fV (Rep.slice GRun.rep) x0), (3, fV (Rep.slice GRat.rep) v1), (5, fV (Rep.slice GRat.rep) s3.1), (6, fV r_i64 s3.2), (14, fV Rep.bool (cmpI .lss s3.2 (List.length v1 : Int)))]) (mkO [(4, boxE 49 GRat.rep v2), (5, tipE 49 GRat.rep.sz)]) F 41 a w := hAt
    refine then_n ?_
    refine wp_if hAt (by rfl) ?_ ?_
    · intro hb12
      have H := iteT hb12 H
      refine wp_skip ?_
      refine then_n ?_
      refine wp_seq ?_
      refine wp_block ?_
      refine wp_seq ?_
      obtain ⟨v4, hv4, H⟩ := bindE H
      refine reg [⟨fV (Rep.slice GRun.rep) x0, [], [(0, none)], []⟩,
          ⟨fV r_i64 s3.2, [], [(6, none)], []⟩,
          ⟨fRef GRun.rep v4, [], [(17, some 0), (18, some 1)], []⟩,
          ⟨fRef Rep.bool v4.Back, [], [(19, some 2)], []⟩,
          ⟨fV Rep.bool v4.Back, [], [(20, some 3)], []⟩] [0, 3, 5, 6, 21] [4, 5] hAt
          ⟨ok_move rfl opd0,
          ok_move rfl opd0,
          ok_index ty131 un43 hv4 rfl opd0 opd1,
          ok_field GRun.l3 fo131_3 rfl opd0,
          ok_load ty4 rfl opd0, trivial⟩ (by kernel_rfl) ?_
      clear hAt
      intro a w hAt
      replace hAt : At B h0 (mkG [(0, fV (Rep.slice GRun.rep) x0), (3, fV (Rep.slice GRat.rep) v1), (5, fV (Rep.slice GRat.rep) s3.1), (6, fV r_i64 s3.2), (21, fV Rep.bool v4.Back)]) (mkO [(4, boxE 49 GRat.rep v2), (5, tipE 49 GRat.rep.sz)]) F 41 a w := hAt
      refine then_n ?_
      refine wp_if hAt (by rfl) ?_ ?_
      · intro hb11
        have H := iteT hb11 H
        obtain ⟨v5, hv5, H⟩ := bindE H
        obtain ⟨v6, hv6, H⟩ := bindE H
        obtain ⟨v7, hv7, H⟩ := bindE H
        refine regd [⟨fV (Rep.slice GRat.rep) s3.1, [(5, none), (22, some (tipE 49 GRat.rep.sz))], [(5, none)], [(5, none)]⟩,
            ⟨fV GRat.rep v2, [], [], [(4, none)]⟩,
            ⟨fV (Rep.slice GRat.rep) v1, [], [(3, none)], []⟩,
            ⟨fV r_i64 s3.2, [], [(6, none)], []⟩,
            ⟨fRef GRat.rep v5, [], [(24, some 2), (25, some 3)], []⟩,
            ⟨fV GRat.rep v5, [], [(26, some 4)], []⟩,
            ⟨fV GRat.rep v6, [], [(23, some 1), (27, some 5)], []⟩,
            ⟨fV (Rep.slice GRat.rep) [v6], [], [(28, some 6)], []⟩,
            ⟨fV (Rep.slice GRat.rep) v7, [(22, none), (30, some (tipE 49 GRat.rep.sz))], [(22, some 0), (29, some 7)], [(22, some 0)]⟩,
            ⟨fV (Rep.slice GRat.rep) v7, [(30, none), (5, some (tipE 49 GRat.rep.sz))], [(30, some 8)], [(30, some 8)]⟩] [0, 1, 2, 3, 4, 5, 6, 7, 8, 9] [0, 1, 2, 3, 4, 5, 6, 7, 8, 9] [0, 3, 5, 6] [4, 5] hAt
            ⟨ok_moveOwn rfl rfl (.inl rfl) opd0,
            ok_loadBox ty49 rfl,
            ok_move rfl opd0,
            ok_move rfl opd0,
            ok_index ty49 un29 hv5 rfl opd0 opd1,
            ok_load ty49 rfl opd0,
            ok_call (ok_f_ref01_SubRat N v2 v5 _ hv6) Try.func79 (by kernel_rfl) (by kernel_rfl) rfl ⟨opd0, ⟨opd1, trivial⟩⟩,
            ok_buildSlice ty49 un29 rfl rfl (fillC (Lens.arr _ _ 0 (by decide)) rfl opd0 fillN),
            ok_append hv7 el49 un29 rfl rfl rfl opd0 opd1,
            ok_moveOwn rfl rfl (.inr rfl) opd0, trivial⟩ (by kernel_rfl) ?_
        clear hAt
        intro a w hAt
        replace hAt : At B h0 (mkG [(0, fV (Rep.slice GRun.rep) x0), (3, fV (Rep.slice GRat.rep) v1), (5, fV (Rep.slice GRat.rep) v7), (6, fV r_i64 s3.2)]) (mkO [(4, boxE 49 GRat.rep v2), (5, tipE 49 GRat.rep.sz)]) F 41 a w := hAt
        refine blk_n ?_
        refine then_n ?_
        refine reg [⟨fV r_i64 s3.2, [], [(6, none)], []⟩,
            ⟨fV r_i64 (IntKind.i64.wrap (s3.2 + 1)), [], [(15, some 0)], []⟩,
            ⟨fV r_i64 (IntKind.i64.wrap (s3.2 + 1)), [], [(16, some 1)], []⟩] [0, 3, 5, 6] [4, 5] hAt
            ⟨ok_move rfl opd0,
            ok_add rfl opd0 opdI,
            ok_assign rfl opd0, trivial⟩ (by kernel_rfl) ?_
        clear hAt
        intro a w hAt
        replace hAt : At B h0 (mkG [(0, fV (Rep.slice GRun.rep) x0), (3, fV (Rep.slice GRat.rep) v1), (5, fV (Rep.slice GRat.rep) v7), (6, fV r_i64 (IntKind.i64.wrap (s3.2 + 1)))]) (mkO [(4, boxE 49 GRat.rep v2), (5, tipE 49 GRat.rep.sz)]) F 41 a w := hAt
        cases H
        exact ⟨rfl, hAt.pick [0, 3, 5, 6] [4, 5]⟩
      · intro hb11
        have H := iteF hb11 H
        obtain ⟨v8, hv8, H⟩ := bindE H
        obtain ⟨v9, hv9, H⟩ := bindE H
        obtain ⟨v10, hv10, H⟩ := bindE H
        refine regd [⟨fV (Rep.slice GRat.rep) s3.1, [(5, none), (31, some (tipE 49 GRat.rep.sz))], [(5, none)], [(5, none)]⟩,
            ⟨fV (Rep.slice GRat.rep) v1, [], [(3, none)], []⟩,
            ⟨fV r_i64 s3.2, [], [(6, none)], []⟩,
            ⟨fRef GRat.rep v8, [], [(32, some 1), (33, some 2)], []⟩,
            ⟨fV GRat.rep v8, [], [(34, some 3)], []⟩,
            ⟨fV GRat.rep v2, [], [], [(4, none)]⟩,
            ⟨fV GRat.rep v9, [], [(35, some 4), (36, some 5)], []⟩,
            ⟨fV (Rep.slice GRat.rep) [v9], [], [(37, some 6)], []⟩,
            ⟨fV (Rep.slice GRat.rep) v10, [(31, none), (39, some (tipE 49 GRat.rep.sz))], [(31, some 0), (38, some 7)], [(31, some 0)]⟩,
            ⟨fV (Rep.slice GRat.rep) v10, [(39, none), (5, some (tipE 49 GRat.rep.sz))], [(39, some 8)], [(39, some 8)]⟩] [0, 1, 2, 3, 4, 5, 6, 7, 8, 9] [0, 1, 2, 3, 4, 5, 6, 7, 8, 9] [0, 3, 5, 6] [4, 5] hAt
            ⟨ok_moveOwn rfl rfl (.inl rfl) opd0,
            ok_move rfl opd0,
            ok_move rfl opd0,
            ok_index ty49 un29 hv8 rfl opd0 opd1,
            ok_load ty49 rfl opd0,
            ok_loadBox ty49 rfl,
            ok_call (ok_f_ref01_SubRat N v8 v2 _ hv9) Try.func79 (by kernel_rfl) (by kernel_rfl) rfl ⟨opd0, ⟨opd1, trivial⟩⟩,
            ok_buildSlice ty49 un29 rfl rfl (fillC (Lens.arr _ _ 0 (by decide)) rfl opd0 fillN),
            ok_append hv10 el49 un29 rfl rfl rfl opd0 opd1,
            ok_moveOwn rfl rfl (.inr rfl) opd0, trivial⟩ (by kernel_rfl) ?_
        clear hAt
        intro a w hAt
        replace hAt : At B h0 (mkG [(0, fV (Rep.slice GRun.rep) x0), (3, fV (Rep.slice GRat.rep) v1), (5, fV (Rep.slice GRat.rep) v10), (6, fV r_i64 s3.2)]) (mkO [(4, boxE 49 GRat.rep v2), (5, tipE 49 GRat.rep.sz)]) F 41 a w := hAt
        refine blk_n ?_
        refine then_n ?_
        refine reg [⟨fV r_i64 s3.2, [], [(6, none)], []⟩,
            ⟨fV r_i64 (IntKind.i64.wrap (s3.2 + 1)), [], [(15, some 0)], []⟩,
            ⟨fV r_i64 (IntKind.i64.wrap (s3.2 + 1)), [], [(16, some 1)], []⟩] [0, 3, 5, 6] [4, 5] hAt
            ⟨ok_move rfl opd0,
            ok_add rfl opd0 opdI,
            ok_assign rfl opd0, trivial⟩ (by kernel_rfl) ?_
        clear hAt
        intro a w hAt
        replace hAt : At B h0 (mkG [(0, fV (Rep.slice GRun.rep) x0), (3, fV (Rep.slice GRat.rep) v1), (5, fV (Rep.slice GRat.rep) v10), (6, fV r_i64 (IntKind.i64.wrap (s3.2 + 1)))]) (mkO [(4, boxE 49 GRat.rep v2), (5, tipE 49 GRat.rep.sz)]) F 41 a w := hAt
        cases H
        exact ⟨rfl, hAt.pick [0, 3, 5, 6] [4, 5]⟩
    · intro hb12
      have H := iteF hb12 H
      refine wp_exit ?_
      refine then_x ?_
      cases H
      exact ⟨ex_ne, rfl, hAt.pick [5] [5]⟩
  · exact hAt.pick [0, 3, 5, 6] [4, 5]
  · clear hAt
    intro e a w hp
    obtain ⟨rfl, hAt⟩ := hp
    refine blk_eq ?_
    refine then_n ?_
    refine wp_seq ?_
    refine reg [⟨fV (Rep.slice GRat.rep) o13, [], [(5, none)], []⟩,
        ⟨fV (Rep.slice GRat.rep) o13, [], [(40, some 0)], []⟩] [2] [] hAt
        ⟨ok_move rfl opd0,
        ok_assign rfl opd0, trivial⟩ (by kernel_rfl) ?_
    clear hAt
    intro a w hAt
    replace hAt : At B h0 (mkG [(2, fV (Rep.slice GRat.rep) o13)]) (mkO []) F 41 a w := hAt
    refine then_n ?_
    refine wp_ret ?_
    cases H
    exact ret1 rfl (rv_tmp rfl rfl) hAt
theorem ok_f_law09_SurveyTrials (N : Nat) (x0 : (List GRun)) (r : Bool) (H : f_law09_SurveyTrials N x0 = some r) : FnOk Try.prog 4 [fV (Rep.slice GRun.rep) x0] (fV Rep.bool r) := by
  unfold f_law09_SurveyTrials at H
  refine fn_enter Try.func4 rfl rfl (by kernel_rfl) ?_
  intro κ B h0 F a w hAt
  refine wp_seq ?_
  refine reg [⟨fV Rep.bool false, [], [], []⟩] [0] [] hAt
      ⟨ok_assign rfl opdB, trivial⟩ (by kernel_rfl) ?_
  clear hAt
  intro a w hAt
  replace hAt : At B h0 (mkG [(0, fV (Rep.slice GRun.rep) x0)]) (mkO []) F 83 a w := hAt
  refine then_n ?_
  refine wp_seq ?_
  refine wp_seq ?_
  obtain ⟨v1, hv1, H⟩ := bindE H
  refine reg [⟨fV Rep.bool v1, [], [], []⟩,
      ⟨fV Rep.bool (!v1), [], [(10, some 0)], []⟩] [0, 11] [] hAt
      ⟨ok_call (ok_f_law09_awake N _ hv1) Try.func14 (by kernel_rfl) (by kernel_rfl) rfl trivial,
      ok_not rfl opd0, trivial⟩ (by kernel_rfl) ?_
  clear hAt
  intro a w hAt
  replace hAt : At B h0 (mkG [(0, fV (Rep.slice GRun.rep) x0), (11, fV Rep.bool (!v1))]) (mkO []) F 83 a w := hAt
  refine then_n ?_
  refine wp_if hAt (by rfl) ?_ ?_
  · intro hb18
    have H := iteT hb18 H
    refine wp_seq ?_
    refine reg [⟨fV Rep.bool false, [], [], []⟩] [2] [] hAt
        ⟨ok_assign rfl opdB, trivial⟩ (by kernel_rfl) ?_
    clear hAt
    intro a w hAt
    replace hAt : At B h0 (mkG [(2, fV Rep.bool false)]) (mkO []) F 83 a w := hAt
    refine then_n ?_
    refine wp_ret ?_
    refine then_r ?_
    cases H
    exact ret1 rfl (rv_tmp rfl rfl) hAt
  · intro hb18
    have H := iteF hb18 H
    refine wp_skip ?_
    refine then_n ?_
    refine wp_seq ?_
    refine wp_seq ?_
    refine reg [⟨fV (Rep.slice GRun.rep) x0, [], [(0, none)], []⟩,
        ⟨fV r_i64 (List.length x0 : Int), [], [(12, some 0)], []⟩,
        ⟨fV Rep.bool (cmpI .gtr (List.length x0 : Int) 14), [], [(13, some 1)], []⟩] [0, 14] [] hAt
        ⟨ok_move rfl opd0,
        ok_len un43 rfl opd0,
        ok_cmp (op := .gtr) (by simp) rfl rfl opd0 opdI, trivial⟩ (by kernel_rfl) ?_
    clear hAt
    intro a w hAt
    replace hAt : At B h0 (mkG [(0, fV (Rep.slice GRun.rep) x0), (14, fV Rep.bool (cmpI .gtr (List.length x0 : Int) 14))]) (mkO []) F 83 a w := hAt
    refine then_n ?_
    refine wp_if hAt (by rfl) ?_ ?_
    · intro hb17
      have H := iteT hb17 H
      refine wp_seq ?_
      refine reg [⟨fV Rep.bool true, [], [], []⟩] [2] [] hAt
          ⟨ok_assign rfl opdB, trivial⟩ (by kernel_rfl) ?_
      clear hAt
      intro a w hAt
      replace hAt : At B h0 (mkG [(2, fV Rep.bool true)]) (mkO []) F 83 a w := hAt
      refine then_n ?_
      refine wp_ret ?_
      refine then_r ?_
      cases H
      exact ret1 rfl (rv_tmp rfl rfl) hAt
    · intro hb17
      have H := iteF hb17 H
      refine wp_skip ?_
      refine then_n ?_
      refine wp_seq ?_
      obtain ⟨v2, hv2, H⟩ := bindE H
      refine reg [⟨fV (Rep.slice GRun.rep) x0, [], [(0, none)], []⟩,
          ⟨fT2 (fV (Rep.slice GRat.rep) v2.1) (fV r_i64 v2.2), [], [(16, some 0)], []⟩,
          ⟨fT2 (fV (Rep.slice GRat.rep) v2.1) (fV r_i64 v2.2), [], [(17, some 1)], []⟩,
          ⟨fV (Rep.slice GRat.rep) v2.1, [], [(15, some 2)], []⟩,
          ⟨fV r_i64 v2.2, [], [(15, some 2)], []⟩,
          ⟨fV (Rep.slice GRat.rep) v2.1, [], [(18, some 3)], []⟩,
          ⟨fV r_i64 v2.2, [], [(19, some 4)], []⟩] [0, 3, 4] [] hAt
          ⟨ok_move rfl opd0,
          ok_call (ok_f_survey_Speeds N x0 _ hv2) Try.func25 (by kernel_rfl) (by kernel_rfl) rfl ⟨opd0, trivial⟩,
          ok_move rfl opd0,
          ok_ext20 rfl rfl opd0,
          ok_ext21 rfl rfl opd0,
          ok_assign rfl opd0,
          ok_assign rfl opd0, trivial⟩ (by kernel_rfl) ?_
      clear hAt
      intro a w hAt
      replace hAt : At B h0 (mkG [(0, fV (Rep.slice GRun.rep) x0), (3, fV (Rep.slice GRat.rep) v2.1), (4, fV r_i64 v2.2)]) (mkO []) F 83 a w := hAt
      refine then_n ?_
      refine wp_seq ?_
      obtain ⟨v3, hv3, H⟩ := bindE H
      refine reg [⟨fV (Rep.slice GRun.rep) x0, [], [(0, none)], []⟩,
          ⟨fT2 (fV GRat.rep v3.1) (fV r_i64 v3.2), [], [(21, some 0)], []⟩,
          ⟨fT2 (fV GRat.rep v3.1) (fV r_i64 v3.2), [], [(22, some 1)], []⟩,
          ⟨fV GRat.rep v3.1, [], [(20, some 2)], []⟩,
          ⟨fV r_i64 v3.2, [], [(20, some 2)], []⟩,
          ⟨Fact.triv, [(5, some (boxE 49 GRat.rep (⟨(⟨false, []⟩ : GInt), (⟨false, []⟩ : GInt)⟩ : GRat)))], [], []⟩,
          ⟨Fact.triv, [(5, some (boxE 49 GRat.rep v3.1))], [(23, some 3)], [(5, some 5)]⟩,
          ⟨fV r_i64 v3.2, [], [(24, some 4)], []⟩] [0, 3, 4, 6] [5] hAt
          ⟨ok_move rfl opd0,
          ok_call (ok_f_survey_MeanOfMeans N x0 _ hv3) Try.func26 (by kernel_rfl) (by kernel_rfl) rfl ⟨opd0, trivial⟩,
          ok_move rfl opd0,
          ok_ext20 rfl rfl opd0,
          ok_ext21 rfl rfl opd0,
          ok_alloc ty49 rfl rfl,
          ok_storeBox ty49 rfl rfl opd0,
          ok_assign rfl opd0, trivial⟩ (by kernel_rfl) ?_
      clear hAt
      intro a w hAt
      replace hAt : At B h0 (mkG [(0, fV (Rep.slice GRun.rep) x0), (3, fV (Rep.slice GRat.rep) v2.1), (4, fV r_i64 v2.2), (6, fV r_i64 v3.2)]) (mkO [(5, boxE 49 GRat.rep v3.1)]) F 83 a w := hAt
      refine then_n ?_
      refine wp_seq ?_
      obtain ⟨v4, hv4, H⟩ := bindE H
      refine reg [⟨fV (Rep.slice GRun.rep) x0, [], [(0, none)], []⟩,
          ⟨fT2 (fV (Rep.slice GRat.rep) v4.1) (fV r_i64 v4.2), [], [(26, some 0)], []⟩,
          ⟨fT2 (fV (Rep.slice GRat.rep) v4.1) (fV r_i64 v4.2), [], [(27, some 1)], []⟩,
          ⟨fV (Rep.slice GRat.rep) v4.1, [], [(25, some 2)], []⟩,
          ⟨fV r_i64 v4.2, [], [(25, some 2)], []⟩,
          ⟨fV (Rep.slice GRat.rep) v4.1, [], [(28, some 3)], []⟩,
          ⟨fV r_i64 v4.2, [], [(29, some 4)], []⟩] [0, 3, 4, 6, 7, 8] [5] hAt
          ⟨ok_move rfl opd0,
          ok_call (ok_f_survey_Currents N x0 _ hv4) Try.func27 (by kernel_rfl) (by kernel_rfl) rfl ⟨opd0, trivial⟩,
          ok_move rfl opd0,
          ok_ext20 rfl rfl opd0,
          ok_ext21 rfl rfl opd0,
          ok_assign rfl opd0,
          ok_assign rfl opd0, trivial⟩ (by kernel_rfl) ?_
      clear hAt
      intro a w hAt
      replace hAt : At B h0 (mkG [(0, fV (Rep.slice GRun.rep) x0), (3, fV (Rep.slice GRat.rep) v2.1), (4, fV r_i64 v2.2), (6, fV r_i64 v3.2), (7, fV (Rep.slice GRat.rep) v4.1), (8, fV r_i64 v4.2)]) (mkO [(5, boxE 49 GRat.rep v3.1)]) F 83 a w := hAt
      refine then_n ?_
      refine wp_seq ?_
      obtain ⟨v5, hv5, H⟩ := bindE H
      refine reg [⟨fV (Rep.slice GRun.rep) x0, [], [(0, none)], []⟩,
          ⟨fV r_i64 v5, [], [(30, some 0)], []⟩,
          ⟨fV r_i64 v5, [], [(31, some 1)], []⟩] [0, 3, 4, 6, 7, 8, 9] [5] hAt
          ⟨ok_move rfl opd0,
          ok_call (ok_f_ref09_CheckTrial N x0 _ hv5) Try.func28 (by kernel_rfl) (by kernel_rfl) rfl ⟨opd0, trivial⟩,
          ok_assign rfl opd0, trivial⟩ (by kernel_rfl) ?_
      clear hAt
      intro a w hAt
      replace hAt : At B h0 (mkG [(0, fV (Rep.slice GRun.rep) x0), (3, fV (Rep.slice GRat.rep) v2.1), (4, fV r_i64 v2.2), (6, fV r_i64 v3.2), (7, fV (Rep.slice GRat.rep) v4.1), (8, fV r_i64 v4.2), (9, fV r_i64 v5)]) (mkO [(5, boxE 49 GRat.rep v3.1)]) F 83 a w := hAt
      refine then_n ?_
      refine wp_seq ?_
      refine wp_seq ?_
      obtain ⟨v6, hv6, H⟩ := bindE H
      refine reg [⟨fV (Rep.slice GRun.rep) x0, [], [(0, none)], []⟩,
          ⟨fV r_i64 v6, [], [(32, some 0)], []⟩,
          ⟨fV r_i64 v5, [], [(9, none)], []⟩,
          ⟨fV Rep.bool (cmpI .neq v6 v5), [], [(33, some 1), (34, some 2)], []⟩,
          ⟨fV Rep.bool (cmpI .neq v6 v5), [], [(35, some 3)], []⟩,
          ⟨Fact.when ((!(cmpI .neq v6 v5)) = true) (fV r_i64 v2.2), [], [(36, some 4), (4, none)], []⟩,
          ⟨Fact.when ((!(cmpI .neq v6 v5)) = true) (fV r_i64 v5), [], [(36, some 4), (9, none)], []⟩,
          ⟨Fact.when ((!(cmpI .neq v6 v5)) = true) (fV Rep.bool (cmpI .neq v2.2 v5)), [], [(36, some 4), (37, some 5), (38, some 6)], []⟩,
          ⟨fV Rep.bool ((cmpI .neq v6 v5) || (cmpI .neq v2.2 v5)), [], [(36, some 4), (39, some 7)], []⟩,
          ⟨fV Rep.bool ((cmpI .neq v6 v5) || (cmpI .neq v2.2 v5)), [], [(40, some 8)], []⟩,
          ⟨Fact.when ((!((cmpI .neq v6 v5) || (cmpI .neq v2.2 v5))) = true) (fV r_i64 v3.2), [], [(41, some 9), (6, none)], []⟩,
          ⟨Fact.when ((!((cmpI .neq v6 v5) || (cmpI .neq v2.2 v5))) = true) (fV r_i64 v5), [], [(41, some 9), (9, none)], []⟩,
          ⟨Fact.when ((!((cmpI .neq v6 v5) || (cmpI .neq v2.2 v5))) = true) (fV Rep.bool (cmpI .neq v3.2 v5)), [], [(41, some 9), (42, some 10), (43, some 11)], []⟩,
          ⟨fV Rep.bool (((cmpI .neq v6 v5) || (cmpI .neq v2.2 v5)) || (cmpI .neq v3.2 v5)), [], [(41, some 9), (44, some 12)], []⟩,
          ⟨fV Rep.bool (((cmpI .neq v6 v5) || (cmpI .neq v2.2 v5)) || (cmpI .neq v3.2 v5)), [], [(45, some 13)], []⟩,
          ⟨Fact.when ((!(((cmpI .neq v6 v5) || (cmpI .neq v2.2 v5)) || (cmpI .neq v3.2 v5))) = true) (fV r_i64 v4.2), [], [(46, some 14), (8, none)], []⟩,
          ⟨Fact.when ((!(((cmpI .neq v6 v5) || (cmpI .neq v2.2 v5)) || (cmpI .neq v3.2 v5))) = true) (fV r_i64 v5), [], [(46, some 14), (9, none)], []⟩,
          ⟨Fact.when ((!(((cmpI .neq v6 v5) || (cmpI .neq v2.2 v5)) || (cmpI .neq v3.2 v5))) = true) (fV Rep.bool (cmpI .neq v4.2 v5)), [], [(46, some 14), (47, some 15), (48, some 16)], []⟩,
          ⟨fV Rep.bool ((((cmpI .neq v6 v5) || (cmpI .neq v2.2 v5)) || (cmpI .neq v3.2 v5)) || (cmpI .neq v4.2 v5)), [], [(46, some 14), (49, some 17)], []⟩] [0, 3, 7, 9, 50] [5] hAt
          ⟨ok_move rfl opd0,
          ok_call (ok_f_survey_CheckTrial N x0 _ hv6) Try.func29 (by kernel_rfl) (by kernel_rfl) rfl ⟨opd0, trivial⟩,
          ok_move rfl opd0,
          ok_cmp (op := .neq) (by simp) rfl rfl opd0 opd1,
          ok_move rfl opd0,
          obl_tf rfl rfl rfl rfl rfl rfl rfl (fun hg => ok_move rfl opd1),
          obl_tf rfl rfl rfl rfl rfl rfl rfl (fun hg => ok_move rfl opd1),
          obl_tf rfl rfl rfl rfl rfl rfl rfl (fun hg => ok_cmp (op := .neq) (by simp) rfl rfl (opd1.on hg) (opd2.on hg)),
          ok_or rfl opd0 (fun e => (opd1.on (notT e))),
          ok_move rfl opd0,
          obl_tf rfl rfl rfl rfl rfl rfl rfl (fun hg => ok_move rfl opd1),
          obl_tf rfl rfl rfl rfl rfl rfl rfl (fun hg => ok_move rfl opd1),
          obl_tf rfl rfl rfl rfl rfl rfl rfl (fun hg => ok_cmp (op := .neq) (by simp) rfl rfl (opd1.on hg) (opd2.on hg)),
          ok_or rfl opd0 (fun e => (opd1.on (notT e))),
          ok_move rfl opd0,
          obl_tf rfl rfl rfl rfl rfl rfl rfl (fun hg => ok_move rfl opd1),
          obl_tf rfl rfl rfl rfl rfl rfl rfl (fun hg => ok_move rfl opd1),
          obl_tf rfl rfl rfl rfl rfl rfl rfl (fun hg => ok_cmp (op := .neq) (by simp) rfl rfl (opd1.on hg) (opd2.on hg)),
          ok_or rfl opd0 (fun e => (opd1.on (notT e))), trivial⟩ (by kernel_rfl) ?_
      clear hAt
      intro a w hAt
      replace hAt : At B h0 (mkG [(0, fV (Rep.slice GRun.rep) x0), (3, fV (Rep.slice GRat.rep) v2.1), (7, fV (Rep.slice GRat.rep) v4.1), (9, fV r_i64 v5), (50, fV Rep.bool ((((cmpI .neq v6 v5) || (cmpI .neq v2.2 v5)) || (cmpI .neq v3.2 v5)) || (cmpI .neq v4.2 v5)))]) (mkO [(5, boxE 49 GRat.rep v3.1)]) F 83 a w := hAt
      refine then_n ?_
      refine wp_if hAt (by rfl) ?_ ?_
      · intro hb16
        have H := iteT hb16 H
        refine wp_seq ?_
        refine reg [⟨fV Rep.bool false, [], [], []⟩] [2] [] hAt
            ⟨ok_assign rfl opdB, trivial⟩ (by kernel_rfl) ?_
        clear hAt
        intro a w hAt
        replace hAt : At B h0 (mkG [(2, fV Rep.bool false)]) (mkO []) F 83 a w := hAt
        refine then_n ?_
        refine wp_ret ?_
        refine then_r ?_
        cases H
        exact ret1 rfl (rv_tmp rfl rfl) hAt
      · intro hb16
        have H := iteF hb16 H
        refine wp_skip ?_
        refine then_n ?_
        refine wp_seq ?_
        refine wp_seq ?_
        refine reg [⟨fV r_i64 v5, [], [(9, none)], []⟩,
            ⟨fV Rep.bool (cmpI .neq v5 0), [], [(51, some 0)], []⟩] [0, 3, 7, 52] [5] hAt
            ⟨ok_move rfl opd0,
            ok_cmp (op := .neq) (by simp) rfl rfl opd0 opdI, trivial⟩ (by kernel_rfl) ?_
        clear hAt
        intro a w hAt
        replace hAt : At B h0 (mkG [(0, fV (Rep.slice GRun.rep) x0), (3, fV (Rep.slice GRat.rep) v2.1), (7, fV (Rep.slice GRat.rep) v4.1), (52, fV Rep.bool (cmpI .neq v5 0))]) (mkO [(5, boxE 49 GRat.rep v3.1)]) F 83 a w := hAt
        refine then_n ?_
        refine wp_if hAt (by rfl) ?_ ?_
        · intro hb15
          have H := iteT hb15 H
          refine wp_seq ?_
          obtain ⟨v7, hv7, H⟩ := bindE H
          refine reg [⟨fV (Rep.slice GRat.rep) v2.1, [], [(3, none)], []⟩,
              ⟨fV r_i64 (List.length v2.1 : Int), [], [(53, some 0)], []⟩,
              ⟨fV Rep.bool (cmpI .eql (List.length v2.1 : Int) 0), [], [(54, some 1)], []⟩,
              ⟨fV Rep.bool (cmpI .eql (List.length v2.1 : Int) 0), [], [(55, some 2)], []⟩,
              ⟨Fact.when ((cmpI .eql (List.length v2.1 : Int) 0) = true) (fV (Rep.slice GRat.rep) v4.1), [], [(56, some 3), (7, none)], []⟩,
              ⟨Fact.when ((cmpI .eql (List.length v2.1 : Int) 0) = true) (fV r_i64 (List.length v4.1 : Int)), [], [(56, some 3), (57, some 4)], []⟩,
              ⟨Fact.when ((cmpI .eql (List.length v2.1 : Int) 0) = true) (fV Rep.bool (cmpI .eql (List.length v4.1 : Int) 0)), [], [(56, some 3), (58, some 5)], []⟩,
              ⟨fV Rep.bool ((cmpI .eql (List.length v2.1 : Int) 0) && (cmpI .eql (List.length v4.1 : Int) 0)), [], [(56, some 3), (59, some 6)], []⟩,
              ⟨fV Rep.bool ((cmpI .eql (List.length v2.1 : Int) 0) && (cmpI .eql (List.length v4.1 : Int) 0)), [], [(60, some 7)], []⟩,
              ⟨Fact.when (((cmpI .eql (List.length v2.1 : Int) 0) && (cmpI .eql (List.length v4.1 : Int) 0)) = true) (fV GRat.rep v3.1), [], [(61, some 8)], [(5, none)]⟩,
              ⟨Fact.when (((cmpI .eql (List.length v2.1 : Int) 0) && (cmpI .eql (List.length v4.1 : Int) 0)) = true) (fV GRat.rep (⟨(⟨false, []⟩ : GInt), (⟨false, []⟩ : GInt)⟩ : GRat)), [], [(61, some 8)], []⟩,
              ⟨Fact.when (((cmpI .eql (List.length v2.1 : Int) 0) && (cmpI .eql (List.length v4.1 : Int) 0)) = true) (fV Rep.bool v7), [], [(61, some 8), (62, some 9), (63, some 10)], []⟩,
              ⟨fV Rep.bool (((cmpI .eql (List.length v2.1 : Int) 0) && (cmpI .eql (List.length v4.1 : Int) 0)) && v7), [], [(61, some 8), (64, some 11)], []⟩,
              ⟨fV Rep.bool (((cmpI .eql (List.length v2.1 : Int) 0) && (cmpI .eql (List.length v4.1 : Int) 0)) && v7), [], [(65, some 12)], []⟩] [2] [] hAt
              ⟨ok_move rfl opd0,
              ok_len un29 rfl opd0,
              ok_cmp (op := .eql) (by simp) rfl rfl opd0 opdI,
              ok_move rfl opd0,
              obl_tt rfl rfl rfl rfl rfl rfl rfl (fun hg => ok_move rfl opd1),
              obl_tt rfl rfl rfl rfl rfl rfl rfl (fun hg => ok_len un29 rfl (opd1.on hg)),
              obl_tt rfl rfl rfl rfl rfl rfl rfl (fun hg => ok_cmp (op := .eql) (by simp) rfl rfl (opd1.on hg) opdI),
              ok_and rfl opd0 (fun e => (opd1.on e)),
              ok_move rfl opd0,
              obl_tt rfl rfl rfl rfl rfl rfl rfl (fun hg => ok_loadBox ty49 rfl),
              obl_tt rfl rfl rfl rfl rfl rfl rfl (fun hg => ok_build ty49 rfl pl49 rfl fillN),
              obl_tt rfl rfl rfl rfl rfl rfl rfl (fun hg => ok_call (ok_f_base_SameRat N v3.1 (⟨(⟨false, []⟩ : GInt), (⟨false, []⟩ : GInt)⟩ : GRat) _ (iteT hg hv7)) Try.func30 (by kernel_rfl) (by kernel_rfl) rfl ⟨(opd1.on hg), ⟨(opd2.on hg), trivial⟩⟩),
              ok_and rfl opd0 (fun e => (opd1.on e)),
              ok_assign rfl opd0, trivial⟩ (by kernel_rfl) ?_
          clear hAt
          intro a w hAt
          replace hAt : At B h0 (mkG [(2, fV Rep.bool (((cmpI .eql (List.length v2.1 : Int) 0) && (cmpI .eql (List.length v4.1 : Int) 0)) && v7))]) (mkO []) F 83 a w := hAt
          refine then_n ?_
          refine wp_ret ?_
          refine then_r ?_
          cases H
          exact ret1 rfl (rv_tmp rfl rfl) hAt
        · intro hb15
          have H := iteF hb15 H
          refine wp_skip ?_
          refine then_n ?_
          refine wp_seq ?_
          obtain ⟨v8, hv8, H⟩ := bindE H
          obtain ⟨v9, hv9, H⟩ := bindE H
          obtain ⟨v10, hv10, H⟩ := bindE H
          obtain ⟨v11, hv11, H⟩ := bindE H
          obtain ⟨v12, hv12, H⟩ := bindE H
          obtain ⟨v13, hv13, H⟩ := bindE H
          obtain ⟨v14, hv14, H⟩ := bindE H
          refine regd [⟨fV (Rep.slice GRat.rep) v2.1, [], [(3, none)], []⟩,
              ⟨fV (Rep.slice GRun.rep) x0, [], [(0, none)], []⟩,
              ⟨fV (Rep.slice GRat.rep) v8, [], [(67, some 1)], []⟩,
              ⟨fV Rep.bool v9, [], [(66, some 0), (68, some 2)], []⟩,
              ⟨fV Rep.bool v9, [], [(69, some 3)], []⟩,
              ⟨Fact.when (v9 = true) (fV GRat.rep v3.1), [], [(70, some 4)], [(5, none)]⟩,
              ⟨Fact.when (v9 = true) (fV (Rep.slice GRun.rep) x0), [], [(70, some 4), (0, none)], []⟩,
              ⟨Fact.when (v9 = true) (fV (Rep.slice GRat.rep) v10), [], [(70, some 4), (72, some 6)], []⟩,
              ⟨Fact.when (v9 = true) (fV GRat.rep v11), [], [(70, some 4), (73, some 7)], []⟩,
              ⟨Fact.when (v9 = true) (fV Rep.bool v12), [], [(70, some 4), (71, some 5), (74, some 8)], []⟩,
              ⟨fV Rep.bool (v9 && v12), [], [(70, some 4), (75, some 9)], []⟩,
              ⟨fV Rep.bool (v9 && v12), [], [(76, some 10)], []⟩,
              ⟨Fact.when ((v9 && v12) = true) (fV (Rep.slice GRat.rep) v4.1), [], [(77, some 11), (7, none)], []⟩,
              ⟨Fact.when ((v9 && v12) = true) (fV (Rep.slice GRun.rep) x0), [], [(77, some 11), (0, none)], []⟩,
              ⟨Fact.when ((v9 && v12) = true) (fV (Rep.slice GRat.rep) v13), [], [(77, some 11), (79, some 13)], []⟩,
              ⟨Fact.when ((v9 && v12) = true) (fV Rep.bool v14), [], [(77, some 11), (78, some 12), (80, some 14)], []⟩,
              ⟨fV Rep.bool ((v9 && v12) && v14), [], [(77, some 11), (81, some 15)], []⟩,
              ⟨fV Rep.bool ((v9 && v12) && v14), [], [(82, some 16)], []⟩] [0, 1, 2, 3, 4, 5, 6, 7, 8, 9, 10, 11, 12, 13, 14, 15, 16, 17] [0, 1, 2, 3, 4, 5, 6, 7, 8, 9, 10, 11, 12, 13, 14, 15, 16, 17] [2] [] hAt
              ⟨ok_move rfl opd0,
              ok_move rfl opd0,
              ok_call (ok_f_ref09_Speeds N x0 _ hv8) Try.func31 (by kernel_rfl) (by kernel_rfl) rfl ⟨opd0, trivial⟩,
              ok_call (ok_f_base_SameRats N v2.1 v8 _ hv9) Try.func21 (by kernel_rfl) (by kernel_rfl) rfl ⟨opd0, ⟨opd1, trivial⟩⟩,
              ok_move rfl opd0,
              obl_tt rfl rfl rfl rfl rfl rfl rfl (fun hg => ok_loadBox ty49 rfl),
              obl_tt rfl rfl rfl rfl rfl rfl rfl (fun hg => ok_move rfl opd1),
              obl_tt rfl rfl rfl rfl rfl rfl rfl (fun hg => ok_call (ok_f_ref09_Speeds N x0 _ (iteT hg hv10)) Try.func31 (by kernel_rfl) (by kernel_rfl) rfl ⟨(opd1.on hg), trivial⟩),
              obl_tt rfl rfl rfl rfl rfl rfl rfl (fun hg => ok_call (ok_f_ref09_Mean N v10 _ (iteT hg hv11)) Try.func32 (by kernel_rfl) (by kernel_rfl) rfl ⟨(opd1.on hg), trivial⟩),
              obl_tt rfl rfl rfl rfl rfl rfl rfl (fun hg => ok_call (ok_f_base_SameRat N v3.1 v11 _ (iteT hg hv12)) Try.func30 (by kernel_rfl) (by kernel_rfl) rfl ⟨(opd1.on hg), ⟨(opd2.on hg), trivial⟩⟩),
              ok_and rfl opd0 (fun e => (opd1.on e)),
              ok_move rfl opd0,
              obl_tt rfl rfl rfl rfl rfl rfl rfl (fun hg => ok_move rfl opd1),
              obl_tt rfl rfl rfl rfl rfl rfl rfl (fun hg => ok_move rfl opd1),
              obl_tt rfl rfl rfl rfl rfl rfl rfl (fun hg => ok_call (ok_f_ref09_Currents N x0 _ (iteT hg hv13)) Try.func33 (by kernel_rfl) (by kernel_rfl) rfl ⟨(opd1.on hg), trivial⟩),
              obl_tt rfl rfl rfl rfl rfl rfl rfl (fun hg => ok_call (ok_f_base_SameRats N v4.1 v13 _ (iteT hg hv14)) Try.func21 (by kernel_rfl) (by kernel_rfl) rfl ⟨(opd1.on hg), ⟨(opd2.on hg), trivial⟩⟩),
              ok_and rfl opd0 (fun e => (opd1.on e)),
              ok_assign rfl opd0, trivial⟩ (by kernel_rfl) ?_
          clear hAt
          intro a w hAt
          replace hAt : At B h0 (mkG [(2, fV Rep.bool ((v9 && v12) && v14))]) (mkO []) F 83 a w := hAt
          refine then_n ?_
          refine wp_ret ?_
          cases H
          exact ret1 rfl (rv_tmp rfl rfl) hAt
end Go.KB
