/- The Go functions compute what the plain functions compute. Printed by a program. No condition. -/
import Derived.Test.YtbedbjphickpaaaGProof4
namespace Go.KB
open Go.Proofs
set_option maxRecDepth 100000
set_option linter.unusedVariables false
theorem okM_f_slices_siftDownOrderedint (N : Nat) (K : Option SegK) (x0 : (List Int)) (x1 : Int) (x2 : Int) (x3 : Int) (r : (List Int)) (H : f_slices_siftDownOrderedint N x0 x1 x2 x3 = some r) : FnOkM Try.prog 137 [Fact.triv, fV r_i64 x1, fV r_i64 x2, fV r_i64 x3] 0 (segE K 3 r_i64 x0) (segE K 3 r_i64 r) (fT0) := by
  unfold f_slices_siftDownOrderedint at H; refine fn_enterM Try.func137 rfl rfl (by kernel_rfl) ?_; intro κ B h0 F a w vM hAt; refine wp_seq ?_
  refine reg [⟨fV r_i64 x1, [], [(1, none)], []⟩,
      ⟨fV r_i64 x1, [], [(10, some 0)], []⟩] [0, 2, 3, 8] [0] hAt
      ⟨ok_move rfl opd0,
      ok_assign rfl opd0, trivial⟩ (by kernel_rfl) ?_
  clear hAt; intro a w hAt; replace hAt : At B h0 (mkG [(0, fIs vM), (2, fV r_i64 x2), (3, fV r_i64 x3), (8, fV r_i64 x1)]) (mkO [(0, segE K 3 r_i64 x0)]) F 76 a w := hAt; refine then_n ?_; refine wp_block ?_; obtain ⟨o17, hl18, H⟩ := bindE H
  refine wp_mono (wp_loopN (f := f_slices_siftDownOrderedint_L1 N x2 x3) (fun (s1 : ((List Int) × Int)) a w => At B h0 (mkG [(0, fIs vM), (2, fV r_i64 x2), (3, fV r_i64 x3), (8, fV r_i64 s1.2)]) (mkO [(0, segE K 3 r_i64 s1.1)]) F 76 a w) (fun o e a w => (Sum.elim (fun v => e = .exit 0 ∧ At B h0 (mkG [(0, fIs vM)]) (mkO [(0, segE K 3 r_i64 v)]) F 76 a w) (fun v => e = .ret ∧ At B h0 (mkG [(0, fIs vM)]) (mkO [(0, segE K 3 r_i64 v)]) F 76 a w)) o) ?_ N (x0, x1) o17 _ _ hl18 ?_) ?_
  · clear H hAt hl18; intro s1 r21 a w H hAt; unfold f_slices_siftDownOrderedint_L1 at H; refine wp_block ?_; refine wp_seq ?_
    refine reg [⟨fV r_i64 s1.2, [], [(8, none)], []⟩,
        ⟨fV r_i64 (IntKind.i64.wrap (2 * s1.2)), [], [(11, some 0)], []⟩,
        ⟨fV r_i64 (IntKind.i64.wrap ((IntKind.i64.wrap (2 * s1.2)) + 1)), [], [(12, some 1)], []⟩,
        ⟨fV r_i64 (IntKind.i64.wrap ((IntKind.i64.wrap (2 * s1.2)) + 1)), [], [(13, some 2)], []⟩] [0, 2, 3, 8, 9] [0] hAt
        ⟨ok_move rfl opd0,
        ok_mul rfl opdI opd0,
        ok_add rfl opd0 opdI,
        ok_assign rfl opd0, trivial⟩ (by kernel_rfl) ?_
    clear hAt; intro a w hAt; replace hAt : At B h0 (mkG [(0, fIs vM), (2, fV r_i64 x2), (3, fV r_i64 x3), (8, fV r_i64 s1.2), (9, fV r_i64 (IntKind.i64.wrap ((IntKind.i64.wrap (2 * s1.2)) + 1)))]) (mkO [(0, segE K 3 r_i64 s1.1)]) F 76 a w := hAt; refine then_n ?_; refine wp_seq ?_; refine wp_seq ?_
    refine reg [⟨fV r_i64 (IntKind.i64.wrap ((IntKind.i64.wrap (2 * s1.2)) + 1)), [], [(9, none)], []⟩,
        ⟨fV r_i64 x2, [], [(2, none)], []⟩,
        ⟨fV Rep.bool (cmpI .geq (IntKind.i64.wrap ((IntKind.i64.wrap (2 * s1.2)) + 1)) x2), [], [(14, some 0), (15, some 1)], []⟩] [0, 2, 3, 8, 9, 16] [0] hAt
        ⟨ok_move rfl opd0,
        ok_move rfl opd0,
        ok_cmp (op := .geq) (by simp) rfl rfl opd0 opd1, trivial⟩ (by kernel_rfl) ?_
    clear hAt; intro a w hAt; replace hAt : At B h0 (mkG [(0, fIs vM), (2, fV r_i64 x2), (3, fV r_i64 x3), (8, fV r_i64 s1.2), (9, fV r_i64 (IntKind.i64.wrap ((IntKind.i64.wrap (2 * s1.2)) + 1))), (16, fV Rep.bool (cmpI .geq (IntKind.i64.wrap ((IntKind.i64.wrap (2 * s1.2)) + 1)) x2))]) (mkO [(0, segE K 3 r_i64 s1.1)]) F 76 a w := hAt; refine then_n ?_; refine wp_if hAt (by rfl) ?_ ?_
    · intro hb16; have H := iteT hb16 H; refine wp_exit ?_; refine then_x ?_; refine blk_ne rfl ?_
      cases H
      exact ⟨ex_ne, rfl, hAt.pick [0] [0]⟩
    · intro hb16; have H := iteF hb16 H; refine wp_skip ?_; refine then_n ?_; refine wp_seq ?_; obtain ⟨o6, hl7, H⟩ := bindE H; refine wp_mono (Q := (fun o e a w => (fun v => e = .normal ∧ At B h0 (mkG [(0, fIs vM), (2, fV r_i64 x2), (3, fV r_i64 x3), (8, fV r_i64 s1.2), (9, fV r_i64 v)]) (mkO [(0, segE K 3 r_i64 s1.1)]) F 76 a w) o) o6) ?_ ?_
      · clear H; have H := hl7; clear hl7; refine wp_seq ?_; obtain ⟨v2, hv2, H⟩ := bindE H; obtain ⟨v3, hv3, H⟩ := bindE H; obtain ⟨v4, hv4, H⟩ := bindE H
        refine regd [⟨fV r_i64 (IntKind.i64.wrap ((IntKind.i64.wrap (2 * s1.2)) + 1)), [], [(9, none)], []⟩,
            ⟨fV r_i64 (IntKind.i64.wrap ((IntKind.i64.wrap ((IntKind.i64.wrap (2 * s1.2)) + 1)) + 1)), [], [(17, some 0)], []⟩,
            ⟨fV r_i64 x2, [], [(2, none)], []⟩,
            ⟨fV Rep.bool (cmpI .lss (IntKind.i64.wrap ((IntKind.i64.wrap ((IntKind.i64.wrap (2 * s1.2)) + 1)) + 1)) x2), [], [(18, some 1), (19, some 2)], []⟩,
            ⟨fV Rep.bool (cmpI .lss (IntKind.i64.wrap ((IntKind.i64.wrap ((IntKind.i64.wrap (2 * s1.2)) + 1)) + 1)) x2), [], [(20, some 3)], []⟩,
            ⟨Fact.when ((cmpI .lss (IntKind.i64.wrap ((IntKind.i64.wrap ((IntKind.i64.wrap (2 * s1.2)) + 1)) + 1)) x2) = true) (fCp 0), [], [(21, some 4)], []⟩,
            ⟨Fact.when ((cmpI .lss (IntKind.i64.wrap ((IntKind.i64.wrap ((IntKind.i64.wrap (2 * s1.2)) + 1)) + 1)) x2) = true) (fV r_i64 x3), [], [(21, some 4), (3, none)], []⟩,
            ⟨Fact.when ((cmpI .lss (IntKind.i64.wrap ((IntKind.i64.wrap ((IntKind.i64.wrap (2 * s1.2)) + 1)) + 1)) x2) = true) (fV r_i64 (IntKind.i64.wrap ((IntKind.i64.wrap (2 * s1.2)) + 1))), [], [(21, some 4), (9, none)], []⟩,
            ⟨Fact.when ((cmpI .lss (IntKind.i64.wrap ((IntKind.i64.wrap ((IntKind.i64.wrap (2 * s1.2)) + 1)) + 1)) x2) = true) (fV r_i64 (IntKind.i64.wrap (x3 + (IntKind.i64.wrap ((IntKind.i64.wrap (2 * s1.2)) + 1))))), [], [(21, some 4), (23, some 6), (24, some 7)], []⟩,
            ⟨Fact.when ((cmpI .lss (IntKind.i64.wrap ((IntKind.i64.wrap ((IntKind.i64.wrap (2 * s1.2)) + 1)) + 1)) x2) = true) (fElS 0 ((Int.toNat (IntKind.i64.wrap (x3 + (IntKind.i64.wrap ((IntKind.i64.wrap (2 * s1.2)) + 1))))) * r_i64.sz + 0)), [], [(21, some 4), (22, some 5), (25, some 8)], [(0, none)]⟩,
            ⟨Fact.when ((cmpI .lss (IntKind.i64.wrap ((IntKind.i64.wrap ((IntKind.i64.wrap (2 * s1.2)) + 1)) + 1)) x2) = true) (fV r_i64 v2), [], [(21, some 4), (26, some 9)], [(0, none)]⟩,
            ⟨Fact.when ((cmpI .lss (IntKind.i64.wrap ((IntKind.i64.wrap ((IntKind.i64.wrap (2 * s1.2)) + 1)) + 1)) x2) = true) (fCp 0), [], [(21, some 4)], []⟩,
            ⟨Fact.when ((cmpI .lss (IntKind.i64.wrap ((IntKind.i64.wrap ((IntKind.i64.wrap (2 * s1.2)) + 1)) + 1)) x2) = true) (fV r_i64 x3), [], [(21, some 4), (3, none)], []⟩,
            ⟨Fact.when ((cmpI .lss (IntKind.i64.wrap ((IntKind.i64.wrap ((IntKind.i64.wrap (2 * s1.2)) + 1)) + 1)) x2) = true) (fV r_i64 (IntKind.i64.wrap ((IntKind.i64.wrap (2 * s1.2)) + 1))), [], [(21, some 4), (9, none)], []⟩,
            ⟨Fact.when ((cmpI .lss (IntKind.i64.wrap ((IntKind.i64.wrap ((IntKind.i64.wrap (2 * s1.2)) + 1)) + 1)) x2) = true) (fV r_i64 (IntKind.i64.wrap (x3 + (IntKind.i64.wrap ((IntKind.i64.wrap (2 * s1.2)) + 1))))), [], [(21, some 4), (29, some 12), (30, some 13)], []⟩,
            ⟨Fact.when ((cmpI .lss (IntKind.i64.wrap ((IntKind.i64.wrap ((IntKind.i64.wrap (2 * s1.2)) + 1)) + 1)) x2) = true) (fV r_i64 (IntKind.i64.wrap ((IntKind.i64.wrap (x3 + (IntKind.i64.wrap ((IntKind.i64.wrap (2 * s1.2)) + 1)))) + 1))), [], [(21, some 4), (31, some 14)], []⟩,
            ⟨Fact.when ((cmpI .lss (IntKind.i64.wrap ((IntKind.i64.wrap ((IntKind.i64.wrap (2 * s1.2)) + 1)) + 1)) x2) = true) (fElS 0 ((Int.toNat (IntKind.i64.wrap ((IntKind.i64.wrap (x3 + (IntKind.i64.wrap ((IntKind.i64.wrap (2 * s1.2)) + 1)))) + 1))) * r_i64.sz + 0)), [], [(21, some 4), (28, some 11), (32, some 15)], [(0, none)]⟩,
            ⟨Fact.when ((cmpI .lss (IntKind.i64.wrap ((IntKind.i64.wrap ((IntKind.i64.wrap (2 * s1.2)) + 1)) + 1)) x2) = true) (fV r_i64 v3), [], [(21, some 4), (33, some 16)], [(0, none)]⟩,
            ⟨Fact.when ((cmpI .lss (IntKind.i64.wrap ((IntKind.i64.wrap ((IntKind.i64.wrap (2 * s1.2)) + 1)) + 1)) x2) = true) (fV Rep.bool v4), [], [(21, some 4), (27, some 10), (34, some 17)], []⟩,
            ⟨fV Rep.bool ((cmpI .lss (IntKind.i64.wrap ((IntKind.i64.wrap ((IntKind.i64.wrap (2 * s1.2)) + 1)) + 1)) x2) && v4), [], [(21, some 4), (35, some 18)], []⟩] [0, 1, 2, 3, 4, 5, 6, 7, 8, 9, 10, 11, 12, 13, 14, 15, 16, 17, 18, 19] [0, 1, 2, 3, 4, 5, 6, 7, 8, 9, 10, 11, 12, 13, 14, 15, 16, 17, 18, 19] [0, 2, 3, 8, 9, 36] [0] hAt
            ⟨ok_move rfl opd0,
            ok_add rfl opd0 opdI,
            ok_move rfl opd0,
            ok_cmp (op := .lss) (by simp) rfl rfl opd0 opd1,
            ok_move rfl opd0,
            obl_tt rfl rfl rfl rfl rfl rfl rfl (fun hg => ok_cp rfl),
            obl_tt rfl rfl rfl rfl rfl rfl rfl (fun hg => ok_move rfl opd1),
            obl_tt rfl rfl rfl rfl rfl rfl rfl (fun hg => ok_move rfl opd1),
            obl_tt rfl rfl rfl rfl rfl rfl rfl (fun hg => ok_add rfl (opd1.on hg) (opd2.on hg)),
            obl_tt rfl rfl rfl rfl rfl rfl rfl (fun hg => ok_elSeg (iteT hg hv2) ty3 un69 rfl (opd1.on hg) (opd2.on hg)),
            obl_tt rfl rfl rfl rfl rfl rfl rfl (fun hg => ok_loadSeg (idx_spec (iteT hg hv2)).2.2 (Lens.refl _) ty3 rfl (opd1.on hg)),
            obl_tt rfl rfl rfl rfl rfl rfl rfl (fun hg => ok_cp rfl),
            obl_tt rfl rfl rfl rfl rfl rfl rfl (fun hg => ok_move rfl opd1),
            obl_tt rfl rfl rfl rfl rfl rfl rfl (fun hg => ok_move rfl opd1),
            obl_tt rfl rfl rfl rfl rfl rfl rfl (fun hg => ok_add rfl (opd1.on hg) (opd2.on hg)),
            obl_tt rfl rfl rfl rfl rfl rfl rfl (fun hg => ok_add rfl (opd1.on hg) opdI),
            obl_tt rfl rfl rfl rfl rfl rfl rfl (fun hg => ok_elSeg (iteT hg hv3) ty3 un69 rfl (opd1.on hg) (opd2.on hg)),
            obl_tt rfl rfl rfl rfl rfl rfl rfl (fun hg => ok_loadSeg (idx_spec (iteT hg hv3)).2.2 (Lens.refl _) ty3 rfl (opd1.on hg)),
            obl_tt rfl rfl rfl rfl rfl rfl rfl (fun hg => ok_call (ok_f_cmp_Lessint N v2 v3 _ (iteT hg hv4)) Try.func132 (by kernel_rfl) (by kernel_rfl) rfl ⟨(opd1.on hg), ⟨(opd2.on hg), trivial⟩⟩),
            ok_and rfl opd0 (fun e => (opd1.on e)), trivial⟩ (by kernel_rfl) ?_
        clear hAt; intro a w hAt; replace hAt : At B h0 (mkG [(0, fIs vM), (2, fV r_i64 x2), (3, fV r_i64 x3), (8, fV r_i64 s1.2), (9, fV r_i64 (IntKind.i64.wrap ((IntKind.i64.wrap (2 * s1.2)) + 1))), (36, fV Rep.bool ((cmpI .lss (IntKind.i64.wrap ((IntKind.i64.wrap ((IntKind.i64.wrap (2 * s1.2)) + 1)) + 1)) x2) && v4))]) (mkO [(0, segE K 3 r_i64 s1.1)]) F 76 a w := hAt; refine then_n ?_
        refine wp_if hAt (by rfl) ?_ ?_
        · intro hb5; have H := iteT hb5 H
          refine reg [⟨fV r_i64 (IntKind.i64.wrap ((IntKind.i64.wrap (2 * s1.2)) + 1)), [], [(9, none)], []⟩,
              ⟨fV r_i64 (IntKind.i64.wrap ((IntKind.i64.wrap ((IntKind.i64.wrap (2 * s1.2)) + 1)) + 1)), [], [(37, some 0)], []⟩,
              ⟨fV r_i64 (IntKind.i64.wrap ((IntKind.i64.wrap ((IntKind.i64.wrap (2 * s1.2)) + 1)) + 1)), [], [(38, some 1)], []⟩] [0, 2, 3, 8, 9] [0] hAt
              ⟨ok_move rfl opd0,
              ok_add rfl opd0 opdI,
              ok_assign rfl opd0, trivial⟩ (by kernel_rfl) ?_
          clear hAt; intro a w hAt; replace hAt : At B h0 (mkG [(0, fIs vM), (2, fV r_i64 x2), (3, fV r_i64 x3), (8, fV r_i64 s1.2), (9, fV r_i64 (IntKind.i64.wrap ((IntKind.i64.wrap ((IntKind.i64.wrap (2 * s1.2)) + 1)) + 1)))]) (mkO [(0, segE K 3 r_i64 s1.1)]) F 76 a w := hAt
          cases H
          exact ⟨rfl, hAt.pick [0, 2, 3, 8, 9] [0]⟩
        · intro hb5; have H := iteF hb5 H; refine wp_skip ?_
          cases H
          exact ⟨rfl, hAt.pick [0, 2, 3, 8, 9] [0]⟩
      · clear hAt; intro e a w hp; obtain ⟨rfl, hAt⟩ := hp; refine then_n ?_; refine wp_seq ?_; refine wp_seq ?_; obtain ⟨v8, hv8, H⟩ := bindE H; obtain ⟨v9, hv9, H⟩ := bindE H; obtain ⟨v10, hv10, H⟩ := bindE H
        refine regd [⟨fCp 0, [], [], []⟩,
            ⟨fV r_i64 x3, [], [(3, none)], []⟩,
            ⟨fV r_i64 s1.2, [], [(8, none)], []⟩,
            ⟨fV r_i64 (IntKind.i64.wrap (x3 + s1.2)), [], [(40, some 1), (41, some 2)], []⟩,
            ⟨fElS 0 ((Int.toNat (IntKind.i64.wrap (x3 + s1.2))) * r_i64.sz + 0), [], [(39, some 0), (42, some 3)], [(0, none)]⟩,
            ⟨fV r_i64 v8, [], [(43, some 4)], [(0, none)]⟩,
            ⟨fCp 0, [], [], []⟩,
            ⟨fV r_i64 x3, [], [(3, none)], []⟩,
            ⟨fV r_i64 o6, [], [(9, none)], []⟩,
            ⟨fV r_i64 (IntKind.i64.wrap (x3 + o6)), [], [(46, some 7), (47, some 8)], []⟩,
            ⟨fElS 0 ((Int.toNat (IntKind.i64.wrap (x3 + o6))) * r_i64.sz + 0), [], [(45, some 6), (48, some 9)], [(0, none)]⟩,
            ⟨fV r_i64 v9, [], [(49, some 10)], [(0, none)]⟩,
            ⟨fV Rep.bool v10, [], [(44, some 5), (50, some 11)], []⟩,
            ⟨fV Rep.bool (!v10), [], [(51, some 12)], []⟩] [0, 1, 2, 3, 4, 5, 6, 7, 8, 9, 10, 11, 12, 13] [0, 1, 2, 3, 4, 5, 6, 7, 8, 9, 10, 11, 12, 13] [0, 2, 3, 8, 9, 52] [0] hAt
            ⟨ok_cp rfl,
            ok_move rfl opd0,
            ok_move rfl opd0,
            ok_add rfl opd0 opd1,
            ok_elSeg hv8 ty3 un69 rfl opd0 opd1,
            ok_loadSeg (idx_spec hv8).2.2 (Lens.refl _) ty3 rfl opd0,
            ok_cp rfl,
            ok_move rfl opd0,
            ok_move rfl opd0,
            ok_add rfl opd0 opd1,
            ok_elSeg hv9 ty3 un69 rfl opd0 opd1,
            ok_loadSeg (idx_spec hv9).2.2 (Lens.refl _) ty3 rfl opd0,
            ok_call (ok_f_cmp_Lessint N v8 v9 _ hv10) Try.func132 (by kernel_rfl) (by kernel_rfl) rfl ⟨opd0, ⟨opd1, trivial⟩⟩,
            ok_not rfl opd0, trivial⟩ (by kernel_rfl) ?_
        clear hAt; intro a w hAt; replace hAt : At B h0 (mkG [(0, fIs vM), (2, fV r_i64 x2), (3, fV r_i64 x3), (8, fV r_i64 s1.2), (9, fV r_i64 o6), (52, fV Rep.bool (!v10))]) (mkO [(0, segE K 3 r_i64 s1.1)]) F 76 a w := hAt; refine then_n ?_; refine wp_if hAt (by rfl) ?_ ?_
        · intro hb15; have H := iteT hb15 H; refine wp_ret ?_; refine then_r ?_; refine blk_r ?_
          cases H
          exact ⟨ret_ne, rfl, hAt.pick [0] [0]⟩
        · intro hb15; have H := iteF hb15 H; refine wp_skip ?_; refine then_n ?_; refine wp_seq ?_; obtain ⟨v11, hv11, H⟩ := bindE H; obtain ⟨v12, hv12, H⟩ := bindE H; obtain ⟨v13, hv13, H⟩ := bindE H; obtain ⟨v14, hv14, H⟩ := bindE H
          refine regd [⟨fCp 0, [], [], []⟩,
              ⟨fV r_i64 x3, [], [(3, none)], []⟩,
              ⟨fV r_i64 s1.2, [], [(8, none)], []⟩,
              ⟨fV r_i64 (IntKind.i64.wrap (x3 + s1.2)), [], [(54, some 1), (55, some 2)], []⟩,
              ⟨fCp 0, [], [], []⟩,
              ⟨fV r_i64 x3, [], [(3, none)], []⟩,
              ⟨fV r_i64 o6, [], [(9, none)], []⟩,
              ⟨fV r_i64 (IntKind.i64.wrap (x3 + o6)), [], [(58, some 5), (59, some 6)], []⟩,
              ⟨fCp 0, [], [], []⟩,
              ⟨fV r_i64 x3, [], [(3, none)], []⟩,
              ⟨fV r_i64 o6, [], [(9, none)], []⟩,
              ⟨fV r_i64 (IntKind.i64.wrap (x3 + o6)), [], [(62, some 9), (63, some 10)], []⟩,
              ⟨fElS 0 ((Int.toNat (IntKind.i64.wrap (x3 + o6))) * r_i64.sz + 0), [], [(61, some 8), (64, some 11)], [(0, none)]⟩,
              ⟨fV r_i64 v11, [], [(65, some 12)], [(0, none)]⟩,
              ⟨fCp 0, [], [], []⟩,
              ⟨fV r_i64 x3, [], [(3, none)], []⟩,
              ⟨fV r_i64 s1.2, [], [(8, none)], []⟩,
              ⟨fV r_i64 (IntKind.i64.wrap (x3 + s1.2)), [], [(68, some 15), (69, some 16)], []⟩,
              ⟨fElS 0 ((Int.toNat (IntKind.i64.wrap (x3 + s1.2))) * r_i64.sz + 0), [], [(67, some 14), (70, some 17)], [(0, none)]⟩,
              ⟨fV r_i64 v12, [], [(71, some 18)], [(0, none)]⟩,
              ⟨fElS 0 ((Int.toNat (IntKind.i64.wrap (x3 + s1.2))) * r_i64.sz + 0), [], [(53, some 0), (56, some 3)], [(0, none)]⟩,
              ⟨Fact.triv, [(0, some (segE K 3 r_i64 (List.set s1.1 (Int.toNat (IntKind.i64.wrap (x3 + s1.2))) v11)))], [(73, some 20), (66, some 13)], [(0, none)]⟩,
              ⟨fElS 0 ((Int.toNat (IntKind.i64.wrap (x3 + o6))) * r_i64.sz + 0), [], [(57, some 4), (60, some 7)], [(0, some 21)]⟩,
              ⟨Fact.triv, [(0, some (segE K 3 r_i64 (List.set (List.set s1.1 (Int.toNat (IntKind.i64.wrap (x3 + s1.2))) v11) (Int.toNat (IntKind.i64.wrap (x3 + o6))) v12)))], [(74, some 22), (72, some 19)], [(0, some 21)]⟩] [0, 1, 2, 3, 4, 5, 6, 7, 8, 9, 10, 11, 12, 13, 14, 15, 16, 17, 18, 19, 20, 21, 22, 23] [0, 1, 2, 3, 8, 9, 10, 11, 12, 13, 14, 15, 16, 17, 18, 19, 20, 21, 4, 5, 6, 7, 22, 23] [0, 2, 3, 9] [0] hAt
              ⟨ok_cp rfl,
              ok_move rfl opd0,
              ok_move rfl opd0,
              ok_add rfl opd0 opd1,
              ok_cp rfl,
              ok_move rfl opd0,
              ok_move rfl opd0,
              ok_add rfl opd0 opd1,
              ok_cp rfl,
              ok_move rfl opd0,
              ok_move rfl opd0,
              ok_add rfl opd0 opd1,
              ok_elSeg hv11 ty3 un69 rfl opd0 opd1,
              ok_loadSeg (idx_spec hv11).2.2 (Lens.refl _) ty3 rfl opd0,
              ok_cp rfl,
              ok_move rfl opd0,
              ok_move rfl opd0,
              ok_add rfl opd0 opd1,
              ok_elSeg hv12 ty3 un69 rfl opd0 opd1,
              ok_loadSeg (idx_spec hv12).2.2 (Lens.refl _) ty3 rfl opd0,
              ok_elSeg hv13 ty3 un69 rfl opd0 opd1,
              ok_storeSeg (idx_spec hv13).2.2 (Lens.refl _) ty3 rfl rfl opd0 opd1 rfl,
              ok_elSeg hv14 ty3 un69 rfl opd0 opd1,
              ok_storeSeg (idx_spec hv14).2.2 (Lens.refl _) ty3 rfl rfl opd0 opd1 rfl, trivial⟩ (by kernel_rfl) ?_
          clear hAt; intro a w hAt; replace hAt : At B h0 (mkG [(0, fIs vM), (2, fV r_i64 x2), (3, fV r_i64 x3), (9, fV r_i64 o6)]) (mkO [(0, segE K 3 r_i64 (List.set (List.set s1.1 (Int.toNat (IntKind.i64.wrap (x3 + s1.2))) v11) (Int.toNat (IntKind.i64.wrap (x3 + o6))) v12))]) F 76 a w := hAt; refine then_n ?_
          refine reg [⟨fV r_i64 o6, [], [(9, none)], []⟩,
              ⟨fV r_i64 o6, [], [(75, some 0)], []⟩] [0, 2, 3, 8] [0] hAt
              ⟨ok_move rfl opd0,
              ok_assign rfl opd0, trivial⟩ (by kernel_rfl) ?_
          clear hAt; intro a w hAt; replace hAt : At B h0 (mkG [(0, fIs vM), (2, fV r_i64 x2), (3, fV r_i64 x3), (8, fV r_i64 o6)]) (mkO [(0, segE K 3 r_i64 (List.set (List.set s1.1 (Int.toNat (IntKind.i64.wrap (x3 + s1.2))) v11) (Int.toNat (IntKind.i64.wrap (x3 + o6))) v12))]) F 76 a w := hAt; refine blk_n ?_
          cases H
          exact ⟨rfl, hAt.pick [0, 2, 3, 8] [0]⟩
  · exact hAt.pick [0, 2, 3, 8] [0]
  · clear hAt; intro e a w hp
    cases o17 with
    | inl l19 =>
      rw [Sum.elim_inl] at H; obtain ⟨rfl, hAt⟩ := hp; refine blk_eq ?_
      cases H
      exact retM0 (i := 0) rfl rfl rfl  hAt
    | inr r20 =>
      rw [Sum.elim_inr] at H; replace hp := hp; obtain ⟨rfl, hAt⟩ := hp; refine blk_r ?_
      cases H
      exact retM0 (i := 0) rfl rfl rfl  hAt
theorem okM_f_slices_heapSortOrderedint (N : Nat) (K : Option SegK) (x0 : (List Int)) (x1 : Int) (x2 : Int) (r : (List Int)) (H : f_slices_heapSortOrderedint N x0 x1 x2 = some r) : FnOkM Try.prog 127 [Fact.triv, fV r_i64 x1, fV r_i64 x2] 0 (segE K 3 r_i64 x0) (segE K 3 r_i64 r) (fT0) := by
  unfold f_slices_heapSortOrderedint at H; refine fn_enterM Try.func127 rfl rfl (by kernel_rfl) ?_; intro κ B h0 F a w vM hAt; refine wp_seq ?_
  refine reg [⟨fV r_i64 x1, [], [(1, none)], []⟩,
      ⟨fV r_i64 x1, [], [(11, some 0)], []⟩] [0, 1, 2, 6] [0] hAt
      ⟨ok_move rfl opd0,
      ok_assign rfl opd0, trivial⟩ (by kernel_rfl) ?_
  clear hAt; intro a w hAt; replace hAt : At B h0 (mkG [(0, fIs vM), (1, fV r_i64 x1), (2, fV r_i64 x2), (6, fV r_i64 x1)]) (mkO [(0, segE K 3 r_i64 x0)]) F 56 a w := hAt; refine then_n ?_; refine wp_seq ?_
  refine reg [⟨fV r_i64 0, [], [], []⟩] [0, 1, 2, 6, 7] [0] hAt
      ⟨ok_assign rfl opdI, trivial⟩ (by kernel_rfl) ?_
  clear hAt; intro a w hAt; replace hAt : At B h0 (mkG [(0, fIs vM), (1, fV r_i64 x1), (2, fV r_i64 x2), (6, fV r_i64 x1), (7, fV r_i64 0)]) (mkO [(0, segE K 3 r_i64 x0)]) F 56 a w := hAt; refine then_n ?_; refine wp_seq ?_
  refine reg [⟨fV r_i64 x2, [], [(2, none)], []⟩,
      ⟨fV r_i64 x1, [], [(1, none)], []⟩,
      ⟨fV r_i64 (IntKind.i64.wrap (x2 - x1)), [], [(12, some 0), (13, some 1)], []⟩,
      ⟨fV r_i64 (IntKind.i64.wrap (x2 - x1)), [], [(14, some 2)], []⟩] [0, 6, 7, 8] [0] hAt
      ⟨ok_move rfl opd0,
      ok_move rfl opd0,
      ok_sub rfl opd0 opd1,
      ok_assign rfl opd0, trivial⟩ (by kernel_rfl) ?_
  clear hAt; intro a w hAt; replace hAt : At B h0 (mkG [(0, fIs vM), (6, fV r_i64 x1), (7, fV r_i64 0), (8, fV r_i64 (IntKind.i64.wrap (x2 - x1)))]) (mkO [(0, segE K 3 r_i64 x0)]) F 56 a w := hAt; refine then_n ?_; refine wp_seq ?_; refine wp_seq ?_; obtain ⟨v1, hv1, H⟩ := bindE H
  refine reg [⟨fV r_i64 (IntKind.i64.wrap (x2 - x1)), [], [(8, none)], []⟩,
      ⟨fV r_i64 (IntKind.i64.wrap ((IntKind.i64.wrap (x2 - x1)) - 1)), [], [(15, some 0)], []⟩,
      ⟨fV r_i64 v1, [], [(16, some 1)], []⟩,
      ⟨fV r_i64 v1, [], [(17, some 2)], []⟩] [0, 6, 7, 8, 9] [0] hAt
      ⟨ok_move rfl opd0,
      ok_sub rfl opd0 opdI,
      ok_quo hv1 rfl opd0 opdI,
      ok_assign rfl opd0, trivial⟩ (by kernel_rfl) ?_
  clear hAt; intro a w hAt; replace hAt : At B h0 (mkG [(0, fIs vM), (6, fV r_i64 x1), (7, fV r_i64 0), (8, fV r_i64 (IntKind.i64.wrap (x2 - x1))), (9, fV r_i64 v1)]) (mkO [(0, segE K 3 r_i64 x0)]) F 56 a w := hAt; refine then_n ?_; refine wp_block ?_; obtain ⟨o5, hl6, H⟩ := bindE H
  refine wp_mono (wp_loopN (f := f_slices_heapSortOrderedint_L2 N x1 x2) (fun (s2 : ((List Int) × Int)) a w => At B h0 (mkG [(0, fIs vM), (6, fV r_i64 x1), (7, fV r_i64 0), (8, fV r_i64 (IntKind.i64.wrap (x2 - x1))), (9, fV r_i64 s2.2)]) (mkO [(0, segE K 3 r_i64 s2.1)]) F 56 a w) (fun o e a w => (fun v => e = .exit 0 ∧ At B h0 (mkG [(0, fIs vM), (6, fV r_i64 x1), (7, fV r_i64 0), (8, fV r_i64 (IntKind.i64.wrap (x2 - x1)))]) (mkO [(0, segE K 3 r_i64 v)]) F 56 a w) o) ?_ N (x0, v1) o5 _ _ hl6 ?_) ?_
  · clear H hAt hl6; intro s2 r17 a w H hAt; unfold f_slices_heapSortOrderedint_L2 at H; refine wp_seq ?_; refine wp_seq ?_
    refine reg [⟨fV r_i64 s2.2, [], [(9, none)], []⟩,
        ⟨fV Rep.bool (cmpI .geq s2.2 0), [], [(18, some 0)], []⟩] [0, 6, 7, 8, 9, 19] [0] hAt
        ⟨ok_move rfl opd0,
        ok_cmp (op := .geq) (by simp) rfl rfl opd0 opdI, trivial⟩ (by kernel_rfl) ?_
    clear hAt; intro a w hAt; replace hAt : At B h0 (mkG [(0, fIs vM), (6, fV r_i64 x1), (7, fV r_i64 0), (8, fV r_i64 (IntKind.i64.wrap (x2 - x1))), (9, fV r_i64 s2.2), (19, fV Rep.bool (cmpI .geq s2.2 0))]) (mkO [(0, segE K 3 r_i64 s2.1)]) F 56 a w := hAt; refine then_n ?_; refine wp_if hAt (by rfl) ?_ ?_
    · intro hb4; have H := iteT hb4 H; refine wp_skip ?_; refine then_n ?_; refine wp_seq ?_; refine wp_block ?_; obtain ⟨v3, hv3, H⟩ := bindE H
      refine reg [⟨fCp 0, [], [], []⟩,
          ⟨fV r_i64 s2.2, [], [(9, none)], []⟩,
          ⟨fV r_i64 (IntKind.i64.wrap (x2 - x1)), [], [(8, none)], []⟩,
          ⟨fV r_i64 x1, [], [(6, none)], []⟩,
          ⟨Fact.triv, [(0, some (segE K 3 r_i64 v3))], [(22, some 0), (23, some 1), (24, some 2), (25, some 3)], [(0, none)]⟩] [0, 6, 7, 8, 9] [0] hAt
          ⟨ok_cp rfl,
          ok_move rfl opd0,
          ok_move rfl opd0,
          ok_move rfl opd0,
          ok_callM0 (i := 0) (fun _ => okM_f_slices_siftDownOrderedint N K s2.1 s2.2 (IntKind.i64.wrap (x2 - x1)) x1 _ hv3) Borrow.cp rfl Try.func137 (by kernel_rfl) (by kernel_rfl) rfl rfl rfl opd0 ⟨opdT, ⟨opd1, ⟨opd2, ⟨opd3, trivial⟩⟩⟩⟩, trivial⟩ (by kernel_rfl) ?_
      clear hAt; intro a w hAt; replace hAt : At B h0 (mkG [(0, fIs vM), (6, fV r_i64 x1), (7, fV r_i64 0), (8, fV r_i64 (IntKind.i64.wrap (x2 - x1))), (9, fV r_i64 s2.2)]) (mkO [(0, segE K 3 r_i64 v3)]) F 56 a w := hAt; refine blk_n ?_; refine then_n ?_
      refine reg [⟨fV r_i64 s2.2, [], [(9, none)], []⟩,
          ⟨fV r_i64 (IntKind.i64.wrap (s2.2 - 1)), [], [(20, some 0)], []⟩,
          ⟨fV r_i64 (IntKind.i64.wrap (s2.2 - 1)), [], [(21, some 1)], []⟩] [0, 6, 7, 8, 9] [0] hAt
          ⟨ok_move rfl opd0,
          ok_sub rfl opd0 opdI,
          ok_assign rfl opd0, trivial⟩ (by kernel_rfl) ?_
      clear hAt; intro a w hAt; replace hAt : At B h0 (mkG [(0, fIs vM), (6, fV r_i64 x1), (7, fV r_i64 0), (8, fV r_i64 (IntKind.i64.wrap (x2 - x1))), (9, fV r_i64 (IntKind.i64.wrap (s2.2 - 1)))]) (mkO [(0, segE K 3 r_i64 v3)]) F 56 a w := hAt
      cases H
      exact ⟨rfl, hAt.pick [0, 6, 7, 8, 9] [0]⟩
    · intro hb4; have H := iteF hb4 H; refine wp_exit ?_; refine then_x ?_
      cases H
      exact ⟨ex_ne, rfl, hAt.pick [0, 6, 7, 8] [0]⟩
  · exact hAt.pick [0, 6, 7, 8, 9] [0]
  · clear hAt; intro e a w hp; obtain ⟨rfl, hAt⟩ := hp; refine blk_eq ?_; refine then_n ?_; refine wp_seq ?_
    refine reg [⟨fV r_i64 (IntKind.i64.wrap (x2 - x1)), [], [(8, none)], []⟩,
        ⟨fV r_i64 (IntKind.i64.wrap ((IntKind.i64.wrap (x2 - x1)) - 1)), [], [(27, some 0)], []⟩,
        ⟨fV r_i64 (IntKind.i64.wrap ((IntKind.i64.wrap (x2 - x1)) - 1)), [], [(28, some 1)], []⟩] [0, 6, 7, 10] [0] hAt
        ⟨ok_move rfl opd0,
        ok_sub rfl opd0 opdI,
        ok_assign rfl opd0, trivial⟩ (by kernel_rfl) ?_
    clear hAt; intro a w hAt; replace hAt : At B h0 (mkG [(0, fIs vM), (6, fV r_i64 x1), (7, fV r_i64 0), (10, fV r_i64 (IntKind.i64.wrap ((IntKind.i64.wrap (x2 - x1)) - 1)))]) (mkO [(0, segE K 3 r_i64 o5)]) F 56 a w := hAt; refine then_n ?_; refine wp_block ?_; obtain ⟨o14, hl15, H⟩ := bindE H
    refine wp_mono (wp_loopN (f := f_slices_heapSortOrderedint_L1 N x1) (fun (s7 : ((List Int) × Int)) a w => At B h0 (mkG [(0, fIs vM), (6, fV r_i64 x1), (7, fV r_i64 0), (10, fV r_i64 s7.2)]) (mkO [(0, segE K 3 r_i64 s7.1)]) F 56 a w) (fun o e a w => (fun v => e = .exit 2 ∧ At B h0 (mkG [(0, fIs vM)]) (mkO [(0, segE K 3 r_i64 v)]) F 56 a w) o) ?_ N (o5, (IntKind.i64.wrap ((IntKind.i64.wrap (x2 - x1)) - 1))) o14 _ _ hl15 ?_) ?_
    · clear H hAt hl15; intro s7 r16 a w H hAt; unfold f_slices_heapSortOrderedint_L1 at H; refine wp_seq ?_; refine wp_seq ?_
      refine reg [⟨fV r_i64 s7.2, [], [(10, none)], []⟩,
          ⟨fV Rep.bool (cmpI .geq s7.2 0), [], [(29, some 0)], []⟩] [0, 6, 7, 10, 30] [0] hAt
          ⟨ok_move rfl opd0,
          ok_cmp (op := .geq) (by simp) rfl rfl opd0 opdI, trivial⟩ (by kernel_rfl) ?_
      clear hAt; intro a w hAt; replace hAt : At B h0 (mkG [(0, fIs vM), (6, fV r_i64 x1), (7, fV r_i64 0), (10, fV r_i64 s7.2), (30, fV Rep.bool (cmpI .geq s7.2 0))]) (mkO [(0, segE K 3 r_i64 s7.1)]) F 56 a w := hAt; refine then_n ?_; refine wp_if hAt (by rfl) ?_ ?_
      · intro hb13; have H := iteT hb13 H; refine wp_skip ?_; refine then_n ?_; refine wp_seq ?_; refine wp_block ?_; refine wp_seq ?_; obtain ⟨v8, hv8, H⟩ := bindE H; obtain ⟨v9, hv9, H⟩ := bindE H; obtain ⟨v10, hv10, H⟩ := bindE H; obtain ⟨v11, hv11, H⟩ := bindE H
        refine regd [⟨fCp 0, [], [], []⟩,
            ⟨fV r_i64 x1, [], [(6, none)], []⟩,
            ⟨fCp 0, [], [], []⟩,
            ⟨fV r_i64 x1, [], [(6, none)], []⟩,
            ⟨fV r_i64 s7.2, [], [(10, none)], []⟩,
            ⟨fV r_i64 (IntKind.i64.wrap (x1 + s7.2)), [], [(36, some 3), (37, some 4)], []⟩,
            ⟨fCp 0, [], [], []⟩,
            ⟨fV r_i64 x1, [], [(6, none)], []⟩,
            ⟨fV r_i64 s7.2, [], [(10, none)], []⟩,
            ⟨fV r_i64 (IntKind.i64.wrap (x1 + s7.2)), [], [(40, some 7), (41, some 8)], []⟩,
            ⟨fElS 0 ((Int.toNat (IntKind.i64.wrap (x1 + s7.2))) * r_i64.sz + 0), [], [(39, some 6), (42, some 9)], [(0, none)]⟩,
            ⟨fV r_i64 v8, [], [(43, some 10)], [(0, none)]⟩,
            ⟨fCp 0, [], [], []⟩,
            ⟨fV r_i64 x1, [], [(6, none)], []⟩,
            ⟨fElS 0 ((Int.toNat x1) * r_i64.sz + 0), [], [(45, some 12), (46, some 13)], [(0, none)]⟩,
            ⟨fV r_i64 v9, [], [(47, some 14)], [(0, none)]⟩,
            ⟨fElS 0 ((Int.toNat x1) * r_i64.sz + 0), [], [(33, some 0), (34, some 1)], [(0, none)]⟩,
            ⟨Fact.triv, [(0, some (segE K 3 r_i64 (List.set s7.1 (Int.toNat x1) v8)))], [(49, some 16), (44, some 11)], [(0, none)]⟩,
            ⟨fElS 0 ((Int.toNat (IntKind.i64.wrap (x1 + s7.2))) * r_i64.sz + 0), [], [(35, some 2), (38, some 5)], [(0, some 17)]⟩,
            ⟨Fact.triv, [(0, some (segE K 3 r_i64 (List.set (List.set s7.1 (Int.toNat x1) v8) (Int.toNat (IntKind.i64.wrap (x1 + s7.2))) v9)))], [(50, some 18), (48, some 15)], [(0, some 17)]⟩] [0, 1, 2, 3, 4, 5, 6, 7, 8, 9, 10, 11, 12, 13, 14, 15, 16, 17, 18, 19] [0, 1, 6, 7, 8, 9, 10, 11, 12, 13, 14, 15, 16, 17, 2, 3, 4, 5, 18, 19] [0, 6, 7, 10] [0] hAt
            ⟨ok_cp rfl,
            ok_move rfl opd0,
            ok_cp rfl,
            ok_move rfl opd0,
            ok_move rfl opd0,
            ok_add rfl opd0 opd1,
            ok_cp rfl,
            ok_move rfl opd0,
            ok_move rfl opd0,
            ok_add rfl opd0 opd1,
            ok_elSeg hv8 ty3 un69 rfl opd0 opd1,
            ok_loadSeg (idx_spec hv8).2.2 (Lens.refl _) ty3 rfl opd0,
            ok_cp rfl,
            ok_move rfl opd0,
            ok_elSeg hv9 ty3 un69 rfl opd0 opd1,
            ok_loadSeg (idx_spec hv9).2.2 (Lens.refl _) ty3 rfl opd0,
            ok_elSeg hv10 ty3 un69 rfl opd0 opd1,
            ok_storeSeg (idx_spec hv10).2.2 (Lens.refl _) ty3 rfl rfl opd0 opd1 rfl,
            ok_elSeg hv11 ty3 un69 rfl opd0 opd1,
            ok_storeSeg (idx_spec hv11).2.2 (Lens.refl _) ty3 rfl rfl opd0 opd1 rfl, trivial⟩ (by kernel_rfl) ?_
        clear hAt; intro a w hAt; replace hAt : At B h0 (mkG [(0, fIs vM), (6, fV r_i64 x1), (7, fV r_i64 0), (10, fV r_i64 s7.2)]) (mkO [(0, segE K 3 r_i64 (List.set (List.set s7.1 (Int.toNat x1) v8) (Int.toNat (IntKind.i64.wrap (x1 + s7.2))) v9))]) F 56 a w := hAt; refine then_n ?_; obtain ⟨v12, hv12, H⟩ := bindE H
        refine reg [⟨fCp 0, [], [], []⟩,
            ⟨fV r_i64 0, [], [(7, none)], []⟩,
            ⟨fV r_i64 s7.2, [], [(10, none)], []⟩,
            ⟨fV r_i64 x1, [], [(6, none)], []⟩,
            ⟨Fact.triv, [(0, some (segE K 3 r_i64 v12))], [(51, some 0), (52, some 1), (53, some 2), (54, some 3)], [(0, none)]⟩] [0, 6, 7, 10] [0] hAt
            ⟨ok_cp rfl,
            ok_move rfl opd0,
            ok_move rfl opd0,
            ok_move rfl opd0,
            ok_callM0 (i := 0) (fun _ => okM_f_slices_siftDownOrderedint N K (List.set (List.set s7.1 (Int.toNat x1) v8) (Int.toNat (IntKind.i64.wrap (x1 + s7.2))) v9) 0 s7.2 x1 _ hv12) Borrow.cp rfl Try.func137 (by kernel_rfl) (by kernel_rfl) rfl rfl rfl opd0 ⟨opdT, ⟨opd1, ⟨opd2, ⟨opd3, trivial⟩⟩⟩⟩, trivial⟩ (by kernel_rfl) ?_
        clear hAt; intro a w hAt; replace hAt : At B h0 (mkG [(0, fIs vM), (6, fV r_i64 x1), (7, fV r_i64 0), (10, fV r_i64 s7.2)]) (mkO [(0, segE K 3 r_i64 v12)]) F 56 a w := hAt; refine blk_n ?_; refine then_n ?_
        refine reg [⟨fV r_i64 s7.2, [], [(10, none)], []⟩,
            ⟨fV r_i64 (IntKind.i64.wrap (s7.2 - 1)), [], [(31, some 0)], []⟩,
            ⟨fV r_i64 (IntKind.i64.wrap (s7.2 - 1)), [], [(32, some 1)], []⟩] [0, 6, 7, 10] [0] hAt
            ⟨ok_move rfl opd0,
            ok_sub rfl opd0 opdI,
            ok_assign rfl opd0, trivial⟩ (by kernel_rfl) ?_
        clear hAt; intro a w hAt; replace hAt : At B h0 (mkG [(0, fIs vM), (6, fV r_i64 x1), (7, fV r_i64 0), (10, fV r_i64 (IntKind.i64.wrap (s7.2 - 1)))]) (mkO [(0, segE K 3 r_i64 v12)]) F 56 a w := hAt
        cases H
        exact ⟨rfl, hAt.pick [0, 6, 7, 10] [0]⟩
      · intro hb13; have H := iteF hb13 H; refine wp_exit ?_; refine then_x ?_
        cases H
        exact ⟨ex_ne, rfl, hAt.pick [0] [0]⟩
    · exact hAt.pick [0, 6, 7, 10] [0]
    · clear hAt; intro e a w hp; obtain ⟨rfl, hAt⟩ := hp; refine blk_eq ?_
      cases H
      exact retM0 (i := 0) rfl rfl rfl  hAt
theorem ok_f_slices_nextPowerOfTwo (N : Nat) (x0 : Int) (r : Int) (H : f_slices_nextPowerOfTwo N x0 = some r) : FnOk Try.prog 138 [fV r_i64 x0] (fV r_u64 r) := by
  unfold f_slices_nextPowerOfTwo at H; refine fn_enter Try.func138 rfl rfl (by kernel_rfl) ?_; intro κ B h0 F a w hAt; refine wp_seq ?_
  refine reg [⟨fV r_u64 0, [], [], []⟩] [0] [] hAt
      ⟨ok_assign rfl opdI, trivial⟩ (by kernel_rfl) ?_
  clear hAt; intro a w hAt; replace hAt : At B h0 (mkG [(0, fV r_i64 x0)]) (mkO []) F 7 a w := hAt; refine then_n ?_; refine wp_seq ?_; obtain ⟨v1, hv1, H⟩ := bindE H; obtain ⟨v2, hv2, H⟩ := bindE H
  refine reg [⟨fV r_i64 x0, [], [(0, none)], []⟩,
      ⟨fV r_u64 (IntKind.u64.wrap x0), [], [(3, some 0)], []⟩,
      ⟨fV r_i64 v1, [], [(4, some 1)], []⟩,
      ⟨fV r_u64 v2, [], [(5, some 2)], []⟩,
      ⟨fV r_u64 v2, [], [(6, some 3)], []⟩] [2] [] hAt
      ⟨ok_move rfl opd0,
      ok_conv un3 un142 rfl opd0,
      ok_call (ok_f_bits_Len N (IntKind.u64.wrap x0) _ hv1) Try.func124 (by kernel_rfl) (by kernel_rfl) rfl ⟨opd0, trivial⟩,
      ok_shl hv2 rfl opdI opd0,
      ok_assign rfl opd0, trivial⟩ (by kernel_rfl) ?_
  clear hAt; intro a w hAt; replace hAt : At B h0 (mkG [(2, fV r_u64 v2)]) (mkO []) F 7 a w := hAt; refine then_n ?_; refine wp_ret ?_
  cases H
  exact ret1 rfl (rv_tmp rfl rfl) hAt
theorem ok_f_slices_xorshift_Next (N : Nat) (x0 : (Option Int)) (r : Int) (H : f_slices_xorshift_Next N x0 = some r) : FnOk Try.prog 139 [fV (Rep.ptr r_u64) x0] (fV r_u64 r) := by
  unfold f_slices_xorshift_Next at H; refine fn_enter Try.func139 rfl rfl (by kernel_rfl) ?_; intro κ B h0 F a w hAt; refine wp_seq ?_
  refine reg [⟨fV r_u64 0, [], [], []⟩] [0] [] hAt
      ⟨ok_assign rfl opdI, trivial⟩ (by kernel_rfl) ?_
  clear hAt; intro a w hAt; replace hAt : At B h0 (mkG [(0, fV (Rep.ptr r_u64) x0)]) (mkO []) F 33 a w := hAt; refine then_n ?_; refine wp_seq ?_
  cases H
theorem okM_f_slices_breakPatternsOrderedint (N : Nat) (K : Option SegK) (x0 : (List Int)) (x1 : Int) (x2 : Int) (r : (List Int)) (H : f_slices_breakPatternsOrderedint N x0 x1 x2 = some r) : FnOkM Try.prog 128 [Fact.triv, fV r_i64 x1, fV r_i64 x2] 0 (segE K 3 r_i64 x0) (segE K 3 r_i64 r) (fT0) := by
  unfold f_slices_breakPatternsOrderedint at H; refine fn_enterM Try.func128 rfl rfl (by kernel_rfl) ?_; intro κ B h0 F a w vM hAt; refine wp_seq ?_
  refine reg [⟨fV r_i64 x2, [], [(2, none)], []⟩,
      ⟨fV r_i64 x1, [], [(1, none)], []⟩,
      ⟨fV r_i64 (IntKind.i64.wrap (x2 - x1)), [], [(11, some 0), (12, some 1)], []⟩,
      ⟨fV r_i64 (IntKind.i64.wrap (x2 - x1)), [], [(13, some 2)], []⟩] [0, 1, 6] [0] hAt
      ⟨ok_move rfl opd0,
      ok_move rfl opd0,
      ok_sub rfl opd0 opd1,
      ok_assign rfl opd0, trivial⟩ (by kernel_rfl) ?_
  clear hAt; intro a w hAt; replace hAt : At B h0 (mkG [(0, fIs vM), (1, fV r_i64 x1), (6, fV r_i64 (IntKind.i64.wrap (x2 - x1)))]) (mkO [(0, segE K 3 r_i64 x0)]) F 65 a w := hAt; refine then_n ?_; refine wp_seq ?_
  refine reg [⟨fV r_i64 (IntKind.i64.wrap (x2 - x1)), [], [(6, none)], []⟩,
      ⟨fV Rep.bool (cmpI .geq (IntKind.i64.wrap (x2 - x1)) 8), [], [(14, some 0)], []⟩] [0, 1, 6, 15] [0] hAt
      ⟨ok_move rfl opd0,
      ok_cmp (op := .geq) (by simp) rfl rfl opd0 opdI, trivial⟩ (by kernel_rfl) ?_
  clear hAt; intro a w hAt; replace hAt : At B h0 (mkG [(0, fIs vM), (1, fV r_i64 x1), (6, fV r_i64 (IntKind.i64.wrap (x2 - x1))), (15, fV Rep.bool (cmpI .geq (IntKind.i64.wrap (x2 - x1)) 8))]) (mkO [(0, segE K 3 r_i64 x0)]) F 65 a w := hAt; refine then_n ?_; refine wp_if hAt (by rfl) ?_ ?_
  · intro hb9; have H := iteT hb9 H; refine wp_seq ?_
    refine reg [⟨fV r_i64 (IntKind.i64.wrap (x2 - x1)), [], [(6, none)], []⟩,
        ⟨fV r_u64 (IntKind.u64.wrap (IntKind.i64.wrap (x2 - x1))), [], [(16, some 0)], []⟩,
        ⟨Fact.triv, [(7, some (boxE 169 r_u64 0))], [], []⟩,
        ⟨Fact.triv, [(7, some (boxE 169 r_u64 (IntKind.u64.wrap (IntKind.i64.wrap (x2 - x1)))))], [(17, some 1)], [(7, some 2)]⟩] [0, 1, 6] [0, 7] hAt
        ⟨ok_move rfl opd0,
        ok_conv un3 un169 rfl opd0,
        ok_alloc ty169 rfl rfl,
        ok_storeBox ty169 rfl rfl opd0, trivial⟩ (by kernel_rfl) ?_
    clear hAt; intro a w hAt; replace hAt : At B h0 (mkG [(0, fIs vM), (1, fV r_i64 x1), (6, fV r_i64 (IntKind.i64.wrap (x2 - x1)))]) (mkO [(0, segE K 3 r_i64 x0), (7, boxE 169 r_u64 (IntKind.u64.wrap (IntKind.i64.wrap (x2 - x1))))]) F 65 a w := hAt; refine then_n ?_; refine wp_seq ?_; obtain ⟨v1, hv1, H⟩ := bindE H
    refine reg [⟨fV r_i64 (IntKind.i64.wrap (x2 - x1)), [], [(6, none)], []⟩,
        ⟨fV r_u64 v1, [], [(18, some 0)], []⟩,
        ⟨fV r_u64 v1, [], [(19, some 1)], []⟩] [0, 1, 6, 8] [0, 7] hAt
        ⟨ok_move rfl opd0,
        ok_call (ok_f_slices_nextPowerOfTwo N (IntKind.i64.wrap (x2 - x1)) _ hv1) Try.func138 (by kernel_rfl) (by kernel_rfl) rfl ⟨opd0, trivial⟩,
        ok_assign rfl opd0, trivial⟩ (by kernel_rfl) ?_
    clear hAt; intro a w hAt; replace hAt : At B h0 (mkG [(0, fIs vM), (1, fV r_i64 x1), (6, fV r_i64 (IntKind.i64.wrap (x2 - x1))), (8, fV r_u64 v1)]) (mkO [(0, segE K 3 r_i64 x0), (7, boxE 169 r_u64 (IntKind.u64.wrap (IntKind.i64.wrap (x2 - x1))))]) F 65 a w := hAt; refine then_n ?_; refine wp_seq ?_; obtain ⟨v2, hv2, H⟩ := bindE H
    refine reg [⟨fV r_i64 x1, [], [(1, none)], []⟩,
        ⟨fV r_i64 (IntKind.i64.wrap (x2 - x1)), [], [(6, none)], []⟩,
        ⟨fV r_i64 v2, [], [(21, some 1)], []⟩,
        ⟨fV r_i64 (IntKind.i64.wrap (v2 * 2)), [], [(22, some 2)], []⟩,
        ⟨fV r_i64 (IntKind.i64.wrap (x1 + (IntKind.i64.wrap (v2 * 2)))), [], [(20, some 0), (23, some 3)], []⟩,
        ⟨fV r_i64 (IntKind.i64.wrap ((IntKind.i64.wrap (x1 + (IntKind.i64.wrap (v2 * 2)))) - 1)), [], [(24, some 4)], []⟩,
        ⟨fV r_i64 (IntKind.i64.wrap ((IntKind.i64.wrap (x1 + (IntKind.i64.wrap (v2 * 2)))) - 1)), [], [(25, some 5)], []⟩] [0, 1, 6, 8, 9] [0, 7] hAt
        ⟨ok_move rfl opd0,
        ok_move rfl opd0,
        ok_quo hv2 rfl opd0 opdI,
        ok_mul rfl opd0 opdI,
        ok_add rfl opd0 opd1,
        ok_sub rfl opd0 opdI,
        ok_assign rfl opd0, trivial⟩ (by kernel_rfl) ?_
    clear hAt; intro a w hAt; replace hAt : At B h0 (mkG [(0, fIs vM), (1, fV r_i64 x1), (6, fV r_i64 (IntKind.i64.wrap (x2 - x1))), (8, fV r_u64 v1), (9, fV r_i64 (IntKind.i64.wrap ((IntKind.i64.wrap (x1 + (IntKind.i64.wrap (v2 * 2)))) - 1)))]) (mkO [(0, segE K 3 r_i64 x0), (7, boxE 169 r_u64 (IntKind.u64.wrap (IntKind.i64.wrap (x2 - x1))))]) F 65 a w := hAt; refine then_n ?_; refine wp_block ?_
    obtain ⟨o6, hl7, H⟩ := bindE H
    refine wp_mono (wp_loopN (f := f_slices_breakPatternsOrderedint_L1 N x1 x2) (fun (s3 : ((List Int) × Int)) a w => At B h0 (mkG [(0, fIs vM), (1, fV r_i64 x1), (6, fV r_i64 (IntKind.i64.wrap (x2 - x1))), (8, fV r_u64 v1), (9, fV r_i64 s3.2)]) (mkO [(0, segE K 3 r_i64 s3.1), (7, boxE 169 r_u64 (IntKind.u64.wrap (IntKind.i64.wrap (x2 - x1))))]) F 65 a w) (fun o e a w => (fun v => e = .exit 0 ∧ At B h0 (mkG [(0, fIs vM)]) (mkO [(0, segE K 3 r_i64 v)]) F 65 a w) o) ?_ N (x0, (IntKind.i64.wrap ((IntKind.i64.wrap (x1 + (IntKind.i64.wrap (v2 * 2)))) - 1))) o6 _ _ hl7 ?_) ?_
    · clear H hAt hl7; intro s3 r8 a w H hAt; unfold f_slices_breakPatternsOrderedint_L1 at H; refine wp_seq ?_; refine wp_seq ?_; obtain ⟨v4, hv4, H⟩ := bindE H
      refine reg [⟨fV r_i64 s3.2, [], [(9, none)], []⟩,
          ⟨fV r_i64 x1, [], [(1, none)], []⟩,
          ⟨fV r_i64 (IntKind.i64.wrap (x2 - x1)), [], [(6, none)], []⟩,
          ⟨fV r_i64 v4, [], [(28, some 2)], []⟩,
          ⟨fV r_i64 (IntKind.i64.wrap (v4 * 2)), [], [(29, some 3)], []⟩,
          ⟨fV r_i64 (IntKind.i64.wrap (x1 + (IntKind.i64.wrap (v4 * 2)))), [], [(27, some 1), (30, some 4)], []⟩,
          ⟨fV r_i64 (IntKind.i64.wrap ((IntKind.i64.wrap (x1 + (IntKind.i64.wrap (v4 * 2)))) + 1)), [], [(31, some 5)], []⟩,
          ⟨fV Rep.bool (cmpI .leq s3.2 (IntKind.i64.wrap ((IntKind.i64.wrap (x1 + (IntKind.i64.wrap (v4 * 2)))) + 1))), [], [(26, some 0), (32, some 6)], []⟩] [0, 1, 6, 8, 9, 33] [0, 7] hAt
          ⟨ok_move rfl opd0,
          ok_move rfl opd0,
          ok_move rfl opd0,
          ok_quo hv4 rfl opd0 opdI,
          ok_mul rfl opd0 opdI,
          ok_add rfl opd0 opd1,
          ok_add rfl opd0 opdI,
          ok_cmp (op := .leq) (by simp) rfl rfl opd0 opd1, trivial⟩ (by kernel_rfl) ?_
      clear hAt; intro a w hAt; replace hAt : At B h0 (mkG [(0, fIs vM), (1, fV r_i64 x1), (6, fV r_i64 (IntKind.i64.wrap (x2 - x1))), (8, fV r_u64 v1), (9, fV r_i64 s3.2), (33, fV Rep.bool (cmpI .leq s3.2 (IntKind.i64.wrap ((IntKind.i64.wrap (x1 + (IntKind.i64.wrap (v4 * 2)))) + 1))))]) (mkO [(0, segE K 3 r_i64 s3.1), (7, boxE 169 r_u64 (IntKind.u64.wrap (IntKind.i64.wrap (x2 - x1))))]) F 65 a w := hAt
      refine then_n ?_; refine wp_if hAt (by rfl) ?_ ?_
      · intro hb5; have H := iteT hb5 H; refine wp_skip ?_; refine then_n ?_; refine wp_seq ?_; refine wp_block ?_; refine wp_seq ?_
        cases H
      · intro hb5; have H := iteF hb5 H; refine wp_exit ?_; refine then_x ?_
        cases H
        exact ⟨ex_ne, rfl, hAt.pick [0] [0]⟩
    · exact hAt.pick [0, 1, 6, 8, 9] [0, 7]
    · clear hAt; intro e a w hp; obtain ⟨rfl, hAt⟩ := hp; refine blk_eq ?_
      cases H
      exact retM0 (i := 0) rfl rfl rfl  hAt
  · intro hb9; have H := iteF hb9 H; refine wp_skip ?_
    cases H
    exact retM0 (i := 0) rfl rfl rfl  hAt
theorem okM_f_slices_pdqsortOrderedint (N : Nat) (K : Option SegK) (x0 : (List Int)) (x1 : Int) (x2 : Int) (x3 : Int) (r : (List Int)) (H : f_slices_pdqsortOrderedint N x0 x1 x2 x3 = some r) : FnOkM Try.prog 123 [Fact.triv, fV r_i64 x1, fV r_i64 x2, fV r_i64 x3] 0 (segE K 3 r_i64 x0) (segE K 3 r_i64 r) (fT0) := by
  unfold f_slices_pdqsortOrderedint at H; refine fn_enterM Try.func123 rfl rfl (by kernel_rfl) ?_; intro κ B h0 F a w vM hAt; refine wp_seq ?_
  refine reg [⟨fV Rep.bool true, [], [], []⟩] [0, 1, 2, 3, 8] [0] hAt
      ⟨ok_assign rfl opdB, trivial⟩ (by kernel_rfl) ?_
  clear hAt; intro a w hAt; replace hAt : At B h0 (mkG [(0, fIs vM), (1, fV r_i64 x1), (2, fV r_i64 x2), (3, fV r_i64 x3), (8, fV Rep.bool true)]) (mkO [(0, segE K 3 r_i64 x0)]) F 134 a w := hAt; refine then_n ?_; refine wp_seq ?_
  refine reg [⟨fV Rep.bool true, [], [], []⟩] [0, 1, 2, 3, 8, 9] [0] hAt
      ⟨ok_assign rfl opdB, trivial⟩ (by kernel_rfl) ?_
  clear hAt; intro a w hAt; replace hAt : At B h0 (mkG [(0, fIs vM), (1, fV r_i64 x1), (2, fV r_i64 x2), (3, fV r_i64 x3), (8, fV Rep.bool true), (9, fV Rep.bool true)]) (mkO [(0, segE K 3 r_i64 x0)]) F 134 a w := hAt; refine then_n ?_; refine wp_block ?_; obtain ⟨o10, hl11, H⟩ := bindE H
  refine wp_mono (wp_loopN (f := f_slices_pdqsortOrderedint_L1 N) (fun (s1 : ((List Int) × Int × Int × Int × Bool × Bool)) a w => At B h0 (mkG [(0, fIs vM), (1, fV r_i64 s1.2.1), (2, fV r_i64 s1.2.2.1), (3, fV r_i64 s1.2.2.2.1), (8, fV Rep.bool s1.2.2.2.2.1), (9, fV Rep.bool s1.2.2.2.2.2)]) (mkO [(0, segE K 3 r_i64 s1.1)]) F 134 a w) (fun o e a w => (fun v => e = .ret ∧ At B h0 (mkG [(0, fIs vM)]) (mkO [(0, segE K 3 r_i64 v)]) F 134 a w) o) ?_ N (x0, x1, x2, x3, true, true) o10 _ _ hl11 ?_) ?_
  · clear H hAt hl11; intro s1 r12 a w H hAt; unfold f_slices_pdqsortOrderedint_L1 at H; refine wp_block ?_; refine wp_seq ?_
    refine reg [⟨fV r_i64 s1.2.2.1, [], [(2, none)], []⟩,
        ⟨fV r_i64 s1.2.1, [], [(1, none)], []⟩,
        ⟨fV r_i64 (IntKind.i64.wrap (s1.2.2.1 - s1.2.1)), [], [(19, some 0), (20, some 1)], []⟩,
        ⟨fV r_i64 (IntKind.i64.wrap (s1.2.2.1 - s1.2.1)), [], [(21, some 2)], []⟩] [0, 1, 2, 3, 8, 9, 10] [0] hAt
        ⟨ok_move rfl opd0,
        ok_move rfl opd0,
        ok_sub rfl opd0 opd1,
        ok_assign rfl opd0, trivial⟩ (by kernel_rfl) ?_
    clear hAt; intro a w hAt; replace hAt : At B h0 (mkG [(0, fIs vM), (1, fV r_i64 s1.2.1), (2, fV r_i64 s1.2.2.1), (3, fV r_i64 s1.2.2.2.1), (8, fV Rep.bool s1.2.2.2.2.1), (9, fV Rep.bool s1.2.2.2.2.2), (10, fV r_i64 (IntKind.i64.wrap (s1.2.2.1 - s1.2.1)))]) (mkO [(0, segE K 3 r_i64 s1.1)]) F 134 a w := hAt; refine then_n ?_; refine wp_seq ?_; refine wp_seq ?_
    refine reg [⟨fV r_i64 (IntKind.i64.wrap (s1.2.2.1 - s1.2.1)), [], [(10, none)], []⟩,
        ⟨fV Rep.bool (cmpI .leq (IntKind.i64.wrap (s1.2.2.1 - s1.2.1)) 12), [], [(22, some 0)], []⟩] [0, 1, 2, 3, 8, 9, 10, 23] [0] hAt
        ⟨ok_move rfl opd0,
        ok_cmp (op := .leq) (by simp) rfl rfl opd0 opdI, trivial⟩ (by kernel_rfl) ?_
    clear hAt; intro a w hAt; replace hAt : At B h0 (mkG [(0, fIs vM), (1, fV r_i64 s1.2.1), (2, fV r_i64 s1.2.2.1), (3, fV r_i64 s1.2.2.2.1), (8, fV Rep.bool s1.2.2.2.2.1), (9, fV Rep.bool s1.2.2.2.2.2), (10, fV r_i64 (IntKind.i64.wrap (s1.2.2.1 - s1.2.1))), (23, fV Rep.bool (cmpI .leq (IntKind.i64.wrap (s1.2.2.1 - s1.2.1)) 12))]) (mkO [(0, segE K 3 r_i64 s1.1)]) F 134 a w := hAt; refine then_n ?_
    refine wp_if hAt (by rfl) ?_ ?_
    · intro hb9; have H := iteT hb9 H; refine wp_seq ?_; obtain ⟨v2, hv2, H⟩ := bindE H
      refine reg [⟨fCp 0, [], [], []⟩,
          ⟨fV r_i64 s1.2.1, [], [(1, none)], []⟩,
          ⟨fV r_i64 s1.2.2.1, [], [(2, none)], []⟩,
          ⟨Fact.triv, [(0, some (segE K 3 r_i64 v2))], [(24, some 0), (25, some 1), (26, some 2)], [(0, none)]⟩] [0] [0] hAt
          ⟨ok_cp rfl,
          ok_move rfl opd0,
          ok_move rfl opd0,
          ok_callM0 (i := 0) (fun _ => okM_f_slices_insertionSortOrderedint N K s1.1 s1.2.1 s1.2.2.1 _ hv2) Borrow.cp rfl Try.func126 (by kernel_rfl) (by kernel_rfl) rfl rfl rfl opd0 ⟨opdT, ⟨opd1, ⟨opd2, trivial⟩⟩⟩, trivial⟩ (by kernel_rfl) ?_
      clear hAt; intro a w hAt; replace hAt : At B h0 (mkG [(0, fIs vM)]) (mkO [(0, segE K 3 r_i64 v2)]) F 134 a w := hAt; refine then_n ?_; refine wp_ret ?_; refine then_r ?_; refine blk_r ?_
      cases H
      exact ⟨ret_ne, rfl, hAt.pick [0] [0]⟩
    · intro hb9; have H := iteF hb9 H; refine wp_skip ?_; refine then_n ?_; refine wp_seq ?_; refine wp_seq ?_
      refine reg [⟨fV r_i64 s1.2.2.2.1, [], [(3, none)], []⟩,
          ⟨fV Rep.bool (cmpI .eql s1.2.2.2.1 0), [], [(28, some 0)], []⟩] [0, 1, 2, 3, 8, 9, 10, 29] [0] hAt
          ⟨ok_move rfl opd0,
          ok_cmp (op := .eql) (by simp) rfl rfl opd0 opdI, trivial⟩ (by kernel_rfl) ?_
      clear hAt; intro a w hAt; replace hAt : At B h0 (mkG [(0, fIs vM), (1, fV r_i64 s1.2.1), (2, fV r_i64 s1.2.2.1), (3, fV r_i64 s1.2.2.2.1), (8, fV Rep.bool s1.2.2.2.2.1), (9, fV Rep.bool s1.2.2.2.2.2), (10, fV r_i64 (IntKind.i64.wrap (s1.2.2.1 - s1.2.1))), (29, fV Rep.bool (cmpI .eql s1.2.2.2.1 0))]) (mkO [(0, segE K 3 r_i64 s1.1)]) F 134 a w := hAt; refine then_n ?_; refine wp_if hAt (by rfl) ?_ ?_
      · intro hb8; have H := iteT hb8 H; refine wp_seq ?_; obtain ⟨v3, hv3, H⟩ := bindE H
        refine reg [⟨fCp 0, [], [], []⟩,
            ⟨fV r_i64 s1.2.1, [], [(1, none)], []⟩,
            ⟨fV r_i64 s1.2.2.1, [], [(2, none)], []⟩,
            ⟨Fact.triv, [(0, some (segE K 3 r_i64 v3))], [(30, some 0), (31, some 1), (32, some 2)], [(0, none)]⟩] [0] [0] hAt
            ⟨ok_cp rfl,
            ok_move rfl opd0,
            ok_move rfl opd0,
            ok_callM0 (i := 0) (fun _ => okM_f_slices_heapSortOrderedint N K s1.1 s1.2.1 s1.2.2.1 _ hv3) Borrow.cp rfl Try.func127 (by kernel_rfl) (by kernel_rfl) rfl rfl rfl opd0 ⟨opdT, ⟨opd1, ⟨opd2, trivial⟩⟩⟩, trivial⟩ (by kernel_rfl) ?_
        clear hAt; intro a w hAt; replace hAt : At B h0 (mkG [(0, fIs vM)]) (mkO [(0, segE K 3 r_i64 v3)]) F 134 a w := hAt; refine then_n ?_; refine wp_ret ?_; refine then_r ?_; refine blk_r ?_
        cases H
        exact ⟨ret_ne, rfl, hAt.pick [0] [0]⟩
      · intro hb8; have H := iteF hb8 H; refine wp_skip ?_; refine then_n ?_; refine wp_seq ?_; obtain ⟨o6, hl7, H⟩ := bindE H
        refine wp_mono (Q := (fun o e a w => (fun v => e = .normal ∧ At B h0 (mkG [(0, fIs vM), (1, fV r_i64 s1.2.1), (2, fV r_i64 s1.2.2.1), (3, fV r_i64 v.2), (8, fV Rep.bool s1.2.2.2.2.1), (9, fV Rep.bool s1.2.2.2.2.2), (10, fV r_i64 (IntKind.i64.wrap (s1.2.2.1 - s1.2.1)))]) (mkO [(0, segE K 3 r_i64 v.1)]) F 134 a w) o) o6) ?_ ?_
        · clear H; have H := hl7; clear hl7; refine wp_seq ?_
          refine reg [⟨fV Rep.bool s1.2.2.2.2.1, [], [(8, none)], []⟩,
              ⟨fV Rep.bool (!s1.2.2.2.2.1), [], [(34, some 0)], []⟩] [0, 1, 2, 3, 8, 9, 10, 35] [0] hAt
              ⟨ok_move rfl opd0,
              ok_not rfl opd0, trivial⟩ (by kernel_rfl) ?_
          clear hAt; intro a w hAt; replace hAt : At B h0 (mkG [(0, fIs vM), (1, fV r_i64 s1.2.1), (2, fV r_i64 s1.2.2.1), (3, fV r_i64 s1.2.2.2.1), (8, fV Rep.bool s1.2.2.2.2.1), (9, fV Rep.bool s1.2.2.2.2.2), (10, fV r_i64 (IntKind.i64.wrap (s1.2.2.1 - s1.2.1))), (35, fV Rep.bool (!s1.2.2.2.2.1))]) (mkO [(0, segE K 3 r_i64 s1.1)]) F 134 a w := hAt; refine then_n ?_; refine wp_if hAt (by rfl) ?_ ?_
          · intro hb5; have H := iteT hb5 H; refine wp_seq ?_; obtain ⟨v4, hv4, H⟩ := bindE H
            refine reg [⟨fCp 0, [], [], []⟩,
                ⟨fV r_i64 s1.2.1, [], [(1, none)], []⟩,
                ⟨fV r_i64 s1.2.2.1, [], [(2, none)], []⟩,
                ⟨Fact.triv, [(0, some (segE K 3 r_i64 v4))], [(36, some 0), (37, some 1), (38, some 2)], [(0, none)]⟩] [0, 1, 2, 3, 8, 9, 10] [0] hAt
                ⟨ok_cp rfl,
                ok_move rfl opd0,
                ok_move rfl opd0,
                ok_callM0 (i := 0) (fun _ => okM_f_slices_breakPatternsOrderedint N K s1.1 s1.2.1 s1.2.2.1 _ hv4) Borrow.cp rfl Try.func128 (by kernel_rfl) (by kernel_rfl) rfl rfl rfl opd0 ⟨opdT, ⟨opd1, ⟨opd2, trivial⟩⟩⟩, trivial⟩ (by kernel_rfl) ?_
            clear hAt; intro a w hAt; replace hAt : At B h0 (mkG [(0, fIs vM), (1, fV r_i64 s1.2.1), (2, fV r_i64 s1.2.2.1), (3, fV r_i64 s1.2.2.2.1), (8, fV Rep.bool s1.2.2.2.2.1), (9, fV Rep.bool s1.2.2.2.2.2), (10, fV r_i64 (IntKind.i64.wrap (s1.2.2.1 - s1.2.1)))]) (mkO [(0, segE K 3 r_i64 v4)]) F 134 a w := hAt; refine then_n ?_
            refine reg [⟨fV r_i64 s1.2.2.2.1, [], [(3, none)], []⟩,
                ⟨fV r_i64 (IntKind.i64.wrap (s1.2.2.2.1 - 1)), [], [(40, some 0)], []⟩,
                ⟨fV r_i64 (IntKind.i64.wrap (s1.2.2.2.1 - 1)), [], [(41, some 1)], []⟩] [0, 1, 2, 3, 8, 9, 10] [0] hAt
                ⟨ok_move rfl opd0,
                ok_sub rfl opd0 opdI,
                ok_assign rfl opd0, trivial⟩ (by kernel_rfl) ?_
            clear hAt; intro a w hAt; replace hAt : At B h0 (mkG [(0, fIs vM), (1, fV r_i64 s1.2.1), (2, fV r_i64 s1.2.2.1), (3, fV r_i64 (IntKind.i64.wrap (s1.2.2.2.1 - 1))), (8, fV Rep.bool s1.2.2.2.2.1), (9, fV Rep.bool s1.2.2.2.2.2), (10, fV r_i64 (IntKind.i64.wrap (s1.2.2.1 - s1.2.1)))]) (mkO [(0, segE K 3 r_i64 v4)]) F 134 a w := hAt
            cases H
            exact ⟨rfl, hAt.pick [0, 1, 2, 3, 8, 9, 10] [0]⟩
          · intro hb5; have H := iteF hb5 H; refine wp_skip ?_
            cases H
            exact ⟨rfl, hAt.pick [0, 1, 2, 3, 8, 9, 10] [0]⟩
        · clear hAt; intro e a w hp; obtain ⟨rfl, hAt⟩ := hp; refine then_n ?_; refine wp_seq ?_
          cases H
  · exact hAt.pick [0, 1, 2, 3, 8, 9] [0]
  · clear hAt; intro e a w hp; obtain ⟨rfl, hAt⟩ := hp; refine blk_r ?_
    cases H
    exact retM0 (i := 0) rfl rfl rfl  hAt
theorem okM_f_slices_Sortlint_int (N : Nat) (K : Option SegK) (x0 : (List Int)) (r : (List Int)) (H : f_slices_Sortlint_int N x0 = some r) : FnOkM Try.prog 115 [Fact.triv] 0 (segE K 3 r_i64 x0) (segE K 3 r_i64 r) (fT0) := by
  unfold f_slices_Sortlint_int at H; refine fn_enterM Try.func115 rfl rfl (by kernel_rfl) ?_; intro κ B h0 F a w vM hAt; refine wp_seq ?_
  refine reg [⟨fCp 0, [], [], []⟩,
      ⟨fV r_i64 (List.length x0 : Int), [], [(3, some 0)], [(0, none)]⟩,
      ⟨fV r_i64 (List.length x0 : Int), [], [(4, some 1)], []⟩] [0, 2] [0] hAt
      ⟨ok_cp rfl,
      ok_lenSeg un69 rfl opd0,
      ok_assign rfl opd0, trivial⟩ (by kernel_rfl) ?_
  clear hAt; intro a w hAt; replace hAt : At B h0 (mkG [(0, fIs vM), (2, fV r_i64 (List.length x0 : Int))]) (mkO [(0, segE K 3 r_i64 x0)]) F 11 a w := hAt; refine then_n ?_; obtain ⟨v1, hv1, H⟩ := bindE H; obtain ⟨v2, hv2, H⟩ := bindE H
  refine reg [⟨fCp 0, [], [], []⟩,
      ⟨fV r_i64 (List.length x0 : Int), [], [(2, none)], []⟩,
      ⟨fV r_i64 (List.length x0 : Int), [], [(2, none)], []⟩,
      ⟨fV r_u64 (IntKind.u64.wrap (List.length x0 : Int)), [], [(7, some 2)], []⟩,
      ⟨fV r_i64 v1, [], [(8, some 3)], []⟩,
      ⟨Fact.triv, [(0, some (segE K 3 r_i64 v2))], [(5, some 0), (6, some 1), (9, some 4)], [(0, none)]⟩] [0] [0] hAt
      ⟨ok_cp rfl,
      ok_move rfl opd0,
      ok_move rfl opd0,
      ok_conv un3 un142 rfl opd0,
      ok_call (ok_f_bits_Len N (IntKind.u64.wrap (List.length x0 : Int)) _ hv1) Try.func124 (by kernel_rfl) (by kernel_rfl) rfl ⟨opd0, trivial⟩,
      ok_callM0 (i := 0) (fun _ => okM_f_slices_pdqsortOrderedint N K x0 0 (List.length x0 : Int) v1 _ hv2) Borrow.cp rfl Try.func123 (by kernel_rfl) (by kernel_rfl) rfl rfl rfl opd0 ⟨opdT, ⟨opdI, ⟨opd1, ⟨opd2, trivial⟩⟩⟩⟩, trivial⟩ (by kernel_rfl) ?_
  clear hAt; intro a w hAt; replace hAt : At B h0 (mkG [(0, fIs vM)]) (mkO [(0, segE K 3 r_i64 v2)]) F 11 a w := hAt
  cases H
  exact retM0 (i := 0) rfl rfl rfl  hAt
theorem okX_f_slices_Compactlint_int (N : Nat) (x0 : (List Int)) (r : (List Int)) (H : f_slices_Compactlint_int N x0 = some r) : FnOkX Try.prog 116 [Fact.triv] 0 (arrE 3 r_i64 x0) (arrE 3 r_i64 r) Fact.triv := by
  unfold f_slices_Compactlint_int at H; refine fn_enterX Try.func116 rfl rfl (by kernel_rfl) ?_; intro κ B h0 F a w hAt; refine wp_seq ?_
  refine reg [⟨Fact.triv, [(2, some (arrE 3 r_i64 []))], [], []⟩] [] [0] hAt
      ⟨ok_nilArr rfl (.inl rfl), trivial⟩ (by kernel_rfl) ?_
  clear hAt; intro a w hAt; replace hAt : At B h0 (mkG []) (mkO [(0, arrE 3 r_i64 x0)]) F 61 a w := hAt; refine then_n ?_; refine wp_seq ?_; refine wp_seq ?_
  refine reg [⟨fCp 0, [], [], []⟩,
      ⟨fV r_i64 (List.length x0 : Int), [], [(6, some 0)], [(0, none)]⟩,
      ⟨fV Rep.bool (cmpI .lss (List.length x0 : Int) 2), [], [(7, some 1)], []⟩] [8] [0] hAt
      ⟨ok_cp rfl,
      ok_lenArr un69 rfl opd0,
      ok_cmp (op := .lss) (by simp) rfl rfl opd0 opdI, trivial⟩ (by kernel_rfl) ?_
  clear hAt; intro a w hAt; replace hAt : At B h0 (mkG [(8, fV Rep.bool (cmpI .lss (List.length x0 : Int) 2))]) (mkO [(0, arrE 3 r_i64 x0)]) F 61 a w := hAt; refine then_n ?_; refine wp_if hAt (by rfl) ?_ ?_
  · intro hb21; have H := iteT hb21 H; refine wp_seq ?_
    refine reg [⟨fCp 0, [], [], []⟩,
        ⟨Fact.triv, [(0, none), (2, some (arrE 3 r_i64 x0))], [(9, some 0)], [(0, none)]⟩] [] [2] hAt
        ⟨ok_cp rfl,
        ok_takeCp rfl rfl (.inr rfl) opd0, trivial⟩ (by kernel_rfl) ?_
    clear hAt; intro a w hAt; replace hAt : At B h0 (mkG []) (mkO [(2, arrE 3 r_i64 x0)]) F 61 a w := hAt; refine then_n ?_; refine wp_ret ?_; refine then_r ?_
    cases H
    exact ret1O rfl rfl  hAt
  · intro hb21; have H := iteF hb21 H; refine wp_skip ?_; refine then_n ?_; refine wp_seq ?_; refine wp_seq ?_
    refine reg [⟨fV r_i64 1, [], [], []⟩] [3] [0] hAt
        ⟨ok_assign rfl opdI, trivial⟩ (by kernel_rfl) ?_
    clear hAt; intro a w hAt; replace hAt : At B h0 (mkG [(3, fV r_i64 1)]) (mkO [(0, arrE 3 r_i64 x0)]) F 61 a w := hAt; refine then_n ?_; refine wp_block ?_; obtain ⟨o18, hl19, H⟩ := bindE H
    refine wp_mono (wp_loopN (f := f_slices_Compactlint_int_L2 N) (fun (s1 : ((List Int) × Int)) a w => At B h0 (mkG [(3, fV r_i64 s1.2)]) (mkO [(0, arrE 3 r_i64 s1.1)]) F 61 a w) (fun o e a w => (fun v => e = .exit 0 ∧ At B h0 (mkG []) (mkO [(0, arrE 3 r_i64 v)]) F 61 a w) o) ?_ N (x0, 1) o18 _ _ hl19 ?_) ?_
    · clear H hAt hl19; intro s1 r20 a w H hAt; unfold f_slices_Compactlint_int_L2 at H; refine wp_seq ?_; refine wp_seq ?_
      refine reg [⟨fV r_i64 s1.2, [], [(3, none)], []⟩,
          ⟨fCp 0, [], [], []⟩,
          ⟨fV r_i64 (List.length s1.1 : Int), [], [(11, some 1)], [(0, none)]⟩,
          ⟨fV Rep.bool (cmpI .lss s1.2 (List.length s1.1 : Int)), [], [(10, some 0), (12, some 2)], []⟩] [3, 13] [0] hAt
          ⟨ok_move rfl opd0,
          ok_cp rfl,
          ok_lenArr un69 rfl opd0,
          ok_cmp (op := .lss) (by simp) rfl rfl opd0 opd1, trivial⟩ (by kernel_rfl) ?_
      clear hAt; intro a w hAt; replace hAt : At B h0 (mkG [(3, fV r_i64 s1.2), (13, fV Rep.bool (cmpI .lss s1.2 (List.length s1.1 : Int)))]) (mkO [(0, arrE 3 r_i64 s1.1)]) F 61 a w := hAt; refine then_n ?_; refine wp_if hAt (by rfl) ?_ ?_
      · intro hb17; have H := iteT hb17 H; refine wp_skip ?_; refine then_n ?_; refine wp_seq ?_; refine wp_block ?_; refine wp_seq ?_; obtain ⟨v2, hv2, H⟩ := bindE H; obtain ⟨v3, hv3, H⟩ := bindE H
        refine regd [⟨fCp 0, [], [], []⟩,
            ⟨fV r_i64 s1.2, [], [(3, none)], []⟩,
            ⟨fEl 0 ((Int.toNat s1.2) * r_i64.sz + 0), [], [(16, some 0), (17, some 1)], [(0, none)]⟩,
            ⟨fV r_i64 v2, [], [(18, some 2)], [(0, none)]⟩,
            ⟨fCp 0, [], [], []⟩,
            ⟨fV r_i64 s1.2, [], [(3, none)], []⟩,
            ⟨fV r_i64 (IntKind.i64.wrap (s1.2 - 1)), [], [(21, some 5)], []⟩,
            ⟨fEl 0 ((Int.toNat (IntKind.i64.wrap (s1.2 - 1))) * r_i64.sz + 0), [], [(20, some 4), (22, some 6)], [(0, none)]⟩,
            ⟨fV r_i64 v3, [], [(23, some 7)], [(0, none)]⟩,
            ⟨fV Rep.bool (cmpI .eql v2 v3), [], [(19, some 3), (24, some 8)], []⟩] [0, 1, 2, 3, 4, 5, 6, 7, 8, 9] [0, 1, 2, 3, 4, 5, 6, 7, 8, 9] [3, 25] [0] hAt
            ⟨ok_cp rfl,
            ok_move rfl opd0,
            ok_elArr hv2 ty3 un69 rfl opd0 opd1,
            ok_loadArr (idx_spec hv2).2.2 (Lens.refl _) ty3 rfl opd0,
            ok_cp rfl,
            ok_move rfl opd0,
            ok_sub rfl opd0 opdI,
            ok_elArr hv3 ty3 un69 rfl opd0 opd1,
            ok_loadArr (idx_spec hv3).2.2 (Lens.refl _) ty3 rfl opd0,
            ok_cmp (op := .eql) (by simp) rfl rfl opd0 opd1, trivial⟩ (by kernel_rfl) ?_
        clear hAt; intro a w hAt; replace hAt : At B h0 (mkG [(3, fV r_i64 s1.2), (25, fV Rep.bool (cmpI .eql v2 v3))]) (mkO [(0, arrE 3 r_i64 s1.1)]) F 61 a w := hAt; refine then_n ?_; refine wp_if hAt (by rfl) ?_ ?_
        · intro hb16; have H := iteT hb16 H; refine wp_seq ?_; have hAt := At.freeze 0 hAt rfl; replace hAt := hAt.pick [0, 3, 25] []; replace hAt : At B h0 (mkG [(0, fV (Rep.slice r_i64) s1.1), (3, fV r_i64 s1.2), (25, fV Rep.bool (cmpI .eql v2 v3))]) (mkO []) F 61 a w := hAt; obtain ⟨v4, hv4, H⟩ := bindE H
          refine reg [⟨fV (Rep.slice r_i64) s1.1, [], [(0, none)], []⟩,
              ⟨fV r_i64 s1.2, [], [(3, none)], []⟩,
              ⟨fV (Rep.slice r_i64) v4, [], [(26, some 0), (27, some 1)], []⟩,
              ⟨fV (Rep.slice r_i64) v4, [], [(28, some 2)], []⟩] [0, 3, 4] [] hAt
              ⟨ok_move rfl opd0,
              ok_move rfl opd0,
              ok_slice hv4 ty3 un69 rfl opd0 (bndS opd1) bndN,
              ok_assign rfl opd0, trivial⟩ (by kernel_rfl) ?_
          clear hAt; intro a w hAt; replace hAt : At B h0 (mkG [(0, fV (Rep.slice r_i64) s1.1), (3, fV r_i64 s1.2), (4, fV (Rep.slice r_i64) v4)]) (mkO []) F 61 a w := hAt; refine then_n ?_; refine wp_seq ?_; refine wp_seq ?_
          refine reg [⟨fV r_i64 1, [], [], []⟩] [0, 3, 4, 5] [] hAt
              ⟨ok_assign rfl opdI, trivial⟩ (by kernel_rfl) ?_
          clear hAt; intro a w hAt; replace hAt : At B h0 (mkG [(0, fV (Rep.slice r_i64) s1.1), (3, fV r_i64 s1.2), (4, fV (Rep.slice r_i64) v4), (5, fV r_i64 1)]) (mkO []) F 61 a w := hAt; refine then_n ?_; refine wp_block ?_; obtain ⟨o12, hl13, H⟩ := bindE H
          refine wp_mono (wp_loopN (f := f_slices_Compactlint_int_L1 N v4) (fun (s5 : ((List Int) × Int × Int)) a w => At B h0 (mkG [(0, fV (Rep.slice r_i64) s5.1), (3, fV r_i64 s5.2.1), (4, fV (Rep.slice r_i64) v4), (5, fV r_i64 s5.2.2)]) (mkO []) F 61 a w) (fun o e a w => (fun v => e = .exit 2 ∧ At B h0 (mkG [(0, fV (Rep.slice r_i64) v.1), (3, fV r_i64 v.2)]) (mkO []) F 61 a w) o) ?_ N (s1.1, s1.2, 1) o12 _ _ hl13 ?_) ?_
          · clear H hAt hl13; intro s5 r15 a w H hAt; unfold f_slices_Compactlint_int_L1 at H; refine wp_seq ?_; refine wp_seq ?_
            refine reg [⟨fV r_i64 s5.2.2, [], [(5, none)], []⟩,
                ⟨fV (Rep.slice r_i64) v4, [], [(4, none)], []⟩,
                ⟨fV r_i64 (List.length v4 : Int), [], [(30, some 1)], []⟩,
                ⟨fV Rep.bool (cmpI .lss s5.2.2 (List.length v4 : Int)), [], [(29, some 0), (31, some 2)], []⟩] [0, 3, 4, 5, 32] [] hAt
                ⟨ok_move rfl opd0,
                ok_move rfl opd0,
                ok_len un69 rfl opd0,
                ok_cmp (op := .lss) (by simp) rfl rfl opd0 opd1, trivial⟩ (by kernel_rfl) ?_
            clear hAt; intro a w hAt; replace hAt : At B h0 (mkG [(0, fV (Rep.slice r_i64) s5.1), (3, fV r_i64 s5.2.1), (4, fV (Rep.slice r_i64) v4), (5, fV r_i64 s5.2.2), (32, fV Rep.bool (cmpI .lss s5.2.2 (List.length v4 : Int)))]) (mkO []) F 61 a w := hAt; refine then_n ?_; refine wp_if hAt (by rfl) ?_ ?_
            · intro hb11; have H := iteT hb11 H; refine wp_skip ?_; refine then_n ?_; refine wp_seq ?_; refine wp_block ?_; refine wp_seq ?_; obtain ⟨v6, hv6, H⟩ := bindE H; obtain ⟨v7, hv7, H⟩ := bindE H
              refine regd [⟨fV (Rep.slice r_i64) v4, [], [(4, none)], []⟩,
                  ⟨fV r_i64 s5.2.2, [], [(5, none)], []⟩,
                  ⟨fRef r_i64 v6, [], [(35, some 0), (36, some 1)], []⟩,
                  ⟨fV r_i64 v6, [], [(37, some 2)], []⟩,
                  ⟨fV (Rep.slice r_i64) v4, [], [(4, none)], []⟩,
                  ⟨fV r_i64 s5.2.2, [], [(5, none)], []⟩,
                  ⟨fV r_i64 (IntKind.i64.wrap (s5.2.2 - 1)), [], [(40, some 5)], []⟩,
                  ⟨fRef r_i64 v7, [], [(39, some 4), (41, some 6)], []⟩,
                  ⟨fV r_i64 v7, [], [(42, some 7)], []⟩,
                  ⟨fV Rep.bool (cmpI .neq v6 v7), [], [(38, some 3), (43, some 8)], []⟩] [0, 1, 2, 3, 4, 5, 6, 7, 8, 9] [0, 1, 2, 3, 4, 5, 6, 7, 8, 9] [0, 3, 4, 5, 44] [] hAt
                  ⟨ok_move rfl opd0,
                  ok_move rfl opd0,
                  ok_index ty3 un69 hv6 rfl opd0 opd1,
                  ok_load ty3 rfl opd0,
                  ok_move rfl opd0,
                  ok_move rfl opd0,
                  ok_sub rfl opd0 opdI,
                  ok_index ty3 un69 hv7 rfl opd0 opd1,
                  ok_load ty3 rfl opd0,
                  ok_cmp (op := .neq) (by simp) rfl rfl opd0 opd1, trivial⟩ (by kernel_rfl) ?_
              clear hAt; intro a w hAt; replace hAt : At B h0 (mkG [(0, fV (Rep.slice r_i64) s5.1), (3, fV r_i64 s5.2.1), (4, fV (Rep.slice r_i64) v4), (5, fV r_i64 s5.2.2), (44, fV Rep.bool (cmpI .neq v6 v7))]) (mkO []) F 61 a w := hAt; refine then_n ?_; refine wp_if hAt (by rfl) ?_ ?_
              · intro hb10; have H := iteT hb10 H; refine wp_seq ?_
                cases H
              · intro hb10; have H := iteF hb10 H; refine wp_skip ?_; refine blk_n ?_; refine then_n ?_
                refine reg [⟨fV r_i64 s5.2.2, [], [(5, none)], []⟩,
                    ⟨fV r_i64 (IntKind.i64.wrap (s5.2.2 + 1)), [], [(33, some 0)], []⟩,
                    ⟨fV r_i64 (IntKind.i64.wrap (s5.2.2 + 1)), [], [(34, some 1)], []⟩] [0, 3, 4, 5] [] hAt
                    ⟨ok_move rfl opd0,
                    ok_add rfl opd0 opdI,
                    ok_assign rfl opd0, trivial⟩ (by kernel_rfl) ?_
                clear hAt; intro a w hAt; replace hAt : At B h0 (mkG [(0, fV (Rep.slice r_i64) s5.1), (3, fV r_i64 s5.2.1), (4, fV (Rep.slice r_i64) v4), (5, fV r_i64 (IntKind.i64.wrap (s5.2.2 + 1)))]) (mkO []) F 61 a w := hAt
                cases H
                exact ⟨rfl, hAt.pick [0, 3, 4, 5] []⟩
            · intro hb11; have H := iteF hb11 H; refine wp_exit ?_; refine then_x ?_
              cases H
              exact ⟨ex_ne, rfl, hAt.pick [0, 3] []⟩
          · exact hAt.pick [0, 3, 4, 5] []
          · clear hAt; intro e a w hp; obtain ⟨rfl, hAt⟩ := hp; refine blk_eq ?_; refine then_n ?_; refine wp_seq ?_
            cases H
        · intro hb16; have H := iteF hb16 H; refine wp_skip ?_; refine blk_n ?_; refine then_n ?_
          refine reg [⟨fV r_i64 s1.2, [], [(3, none)], []⟩,
              ⟨fV r_i64 (IntKind.i64.wrap (s1.2 + 1)), [], [(14, some 0)], []⟩,
              ⟨fV r_i64 (IntKind.i64.wrap (s1.2 + 1)), [], [(15, some 1)], []⟩] [3] [0] hAt
              ⟨ok_move rfl opd0,
              ok_add rfl opd0 opdI,
              ok_assign rfl opd0, trivial⟩ (by kernel_rfl) ?_
          clear hAt; intro a w hAt; replace hAt : At B h0 (mkG [(3, fV r_i64 (IntKind.i64.wrap (s1.2 + 1)))]) (mkO [(0, arrE 3 r_i64 s1.1)]) F 61 a w := hAt
          cases H
          exact ⟨rfl, hAt.pick [3] [0]⟩
      · intro hb17; have H := iteF hb17 H; refine wp_exit ?_; refine then_x ?_
        cases H
        exact ⟨ex_ne, rfl, hAt.pick [] [0]⟩
    · exact hAt.pick [3] [0]
    · clear hAt; intro e a w hp; obtain ⟨rfl, hAt⟩ := hp; refine blk_eq ?_; refine then_n ?_; refine wp_seq ?_
      refine reg [⟨fCp 0, [], [], []⟩,
          ⟨Fact.triv, [(0, none), (2, some (arrE 3 r_i64 o18))], [(60, some 0)], [(0, none)]⟩] [] [2] hAt
          ⟨ok_cp rfl,
          ok_takeCp rfl rfl (.inr rfl) opd0, trivial⟩ (by kernel_rfl) ?_
      clear hAt; intro a w hAt; replace hAt : At B h0 (mkG []) (mkO [(2, arrE 3 r_i64 o18)]) F 61 a w := hAt; refine then_n ?_; refine wp_ret ?_
      cases H
      exact ret1O rfl rfl  hAt
theorem ok_f_hull_heights (N : Nat) (x0 : GShip) (r : (List Int)) (H : f_hull_heights N x0 = some r) : FnOk Try.prog 94 [fV GShip.rep x0] (fV (Rep.slice r_i64) r) := by
  unfold f_hull_heights at H; refine fn_enter Try.func94 rfl rfl (by kernel_rfl) ?_; intro κ B h0 F a w hAt; refine wp_seq ?_
  refine reg [⟨fRef GShip.rep x0, [], [(0, none)], []⟩,
      ⟨Fact.triv, [(2, some (arrE 3 r_i64 []))], [], []⟩] [1] [] hAt
      ⟨ok_box rfl opd0,
      ok_nilArr rfl (.inl rfl), trivial⟩ (by kernel_rfl) ?_
  clear hAt; intro a w hAt; replace hAt : At B h0 (mkG [(1, fRef GShip.rep x0)]) (mkO []) F 22 a w := hAt; refine then_n ?_; refine wp_seq ?_
  refine reg [⟨Fact.triv, [(3, some (arrE 3 r_i64 []))], [], []⟩] [1] [3] hAt
      ⟨ok_nilArr rfl (.inl rfl), trivial⟩ (by kernel_rfl) ?_
  clear hAt; intro a w hAt; replace hAt : At B h0 (mkG [(1, fRef GShip.rep x0)]) (mkO [(3, arrE 3 r_i64 [])]) F 22 a w := hAt; refine then_n ?_; refine wp_seq ?_; refine wp_seq ?_
  refine reg [⟨fRef (Rep.slice GStation.rep) x0.Stations, [], [(1, none)], []⟩,
      ⟨fV (Rep.slice GStation.rep) x0.Stations, [], [(6, some 0)], []⟩,
      ⟨fV r_i64 (List.length x0.Stations : Int), [], [(7, some 1)], []⟩,
      ⟨fV r_i64 0, [], [], []⟩] [7, 8, 9] [3] hAt
      ⟨ok_field GShip.l2 fo27_2 rfl opd0,
      ok_load ty22 rfl opd0,
      ok_len un22 rfl opd0,
      ok_move rfl opdI, trivial⟩ (by kernel_rfl) ?_
  clear hAt; intro a w hAt; replace hAt : At B h0 (mkG [(7, fV (Rep.slice GStation.rep) x0.Stations), (8, fV r_i64 (List.length x0.Stations : Int)), (9, fV r_i64 0)]) (mkO [(3, arrE 3 r_i64 [])]) F 22 a w := hAt; refine then_n ?_; refine wp_block ?_; obtain ⟨o5, hl6, H⟩ := bindE H
  refine wp_mono (wp_loopN (f := f_hull_heights_L1 N x0) (fun (s1 : ((List Int) × Int)) a w => At B h0 (mkG [(7, fV (Rep.slice GStation.rep) x0.Stations), (8, fV r_i64 (List.length x0.Stations : Int)), (9, fV r_i64 s1.2)]) (mkO [(3, arrE 3 r_i64 s1.1)]) F 22 a w) (fun o e a w => (fun v => e = .exit 0 ∧ At B h0 (mkG []) (mkO [(3, arrE 3 r_i64 v)]) F 22 a w) o) ?_ N ([], 0) o5 _ _ hl6 ?_) ?_
  · clear H hAt hl6; intro s1 r9 a w H hAt; unfold f_hull_heights_L1 at H; refine wp_seq ?_
    refine reg [⟨fV Rep.bool (cmpI .lss s1.2 (List.length x0.Stations : Int)), [], [(9, none), (8, none)], []⟩] [7, 8, 9, 10] [3] hAt
        ⟨ok_cmp (op := .lss) (by simp) rfl rfl opd0 opd1, trivial⟩ (by kernel_rfl) ?_
    clear hAt; intro a w hAt; replace hAt : At B h0 (mkG [(7, fV (Rep.slice GStation.rep) x0.Stations), (8, fV r_i64 (List.length x0.Stations : Int)), (9, fV r_i64 s1.2), (10, fV Rep.bool (cmpI .lss s1.2 (List.length x0.Stations : Int)))]) (mkO [(3, arrE 3 r_i64 s1.1)]) F 22 a w := hAt; refine then_n ?_; refine wp_seq ?_; refine wp_if hAt (by rfl) ?_ ?_
    · intro hb4; have H := iteT hb4 H; refine wp_skip ?_; refine then_n ?_; refine wp_seq ?_; refine wp_block ?_; refine wp_seq ?_; obtain ⟨v2, hv2, H⟩ := bindE H
      refine reg [⟨fRef GStation.rep v2, [], [(7, none), (9, none)], []⟩,
          ⟨fV GStation.rep v2, [], [(11, some 0)], []⟩,
          ⟨Fact.triv, [(5, some (boxE 71 GStation.rep (⟨0, 0, [], []⟩ : GStation)))], [], []⟩,
          ⟨Fact.triv, [(5, some (boxE 71 GStation.rep v2))], [(12, some 1)], [(5, some 2)]⟩] [7, 8, 9] [3, 5] hAt
          ⟨ok_index ty71 un22 hv2 rfl opd0 opd1,
          ok_load ty71 rfl opd0,
          ok_alloc ty71 rfl rfl,
          ok_storeBox ty71 rfl rfl opd0, trivial⟩ (by kernel_rfl) ?_
      clear hAt; intro a w hAt; replace hAt : At B h0 (mkG [(7, fV (Rep.slice GStation.rep) x0.Stations), (8, fV r_i64 (List.length x0.Stations : Int)), (9, fV r_i64 s1.2)]) (mkO [(3, arrE 3 r_i64 s1.1), (5, boxE 71 GStation.rep v2)]) F 22 a w := hAt; refine then_n ?_; obtain ⟨v3, hv3, H⟩ := bindE H
      refine reg [⟨fCp 3, [], [], []⟩,
          ⟨fOff 5 2, [], [], [(5, none)]⟩,
          ⟨fV (Rep.slice r_i64) v2.Levels, [], [(14, some 1)], [(5, none)]⟩,
          ⟨Fact.triv, [(3, none), (16, some (arrE 3 r_i64 v3))], [(13, some 0), (15, some 2)], [(3, none)]⟩,
          ⟨Fact.triv, [(16, none), (3, some (arrE 3 r_i64 v3))], [], [(16, some 3)]⟩] [7, 8, 9] [3] hAt
          ⟨ok_cp rfl,
          ok_fieldOwn fo71_2 rfl,
          ok_loadOwn GStation.l2 ty69 rfl opd0,
          ok_appendArr hv3 el3 un69 rfl rfl rfl opd0 opd1,
          (ok_moveOwn (f := Fact.triv) rfl rfl (.inr rfl) (fun _ _ _ => trivial)), trivial⟩ (by kernel_rfl) ?_
      clear hAt; intro a w hAt; replace hAt : At B h0 (mkG [(7, fV (Rep.slice GStation.rep) x0.Stations), (8, fV r_i64 (List.length x0.Stations : Int)), (9, fV r_i64 s1.2)]) (mkO [(3, arrE 3 r_i64 v3)]) F 22 a w := hAt; refine blk_n ?_; refine then_n ?_
      refine reg [⟨fV r_i64 (IntKind.i64.wrap (s1.2 + 1)), [], [(9, none)], []⟩,
          ⟨fV r_i64 (IntKind.i64.wrap (s1.2 + 1)), [], [(17, some 0)], []⟩] [7, 8, 9] [3] hAt
          ⟨ok_add rfl opd0 opdI,
          ok_move rfl opd0, trivial⟩ (by kernel_rfl) ?_
      clear hAt; intro a w hAt; replace hAt : At B h0 (mkG [(7, fV (Rep.slice GStation.rep) x0.Stations), (8, fV r_i64 (List.length x0.Stations : Int)), (9, fV r_i64 (IntKind.i64.wrap (s1.2 + 1)))]) (mkO [(3, arrE 3 r_i64 v3)]) F 22 a w := hAt
      cases H
      exact ⟨rfl, hAt.pick [7, 8, 9] [3]⟩
    · intro hb4; have H := iteF hb4 H; refine wp_exit ?_; refine then_x ?_
      cases H
      exact ⟨ex_ne, rfl, hAt.pick [] [3]⟩
  · exact hAt.pick [7, 8, 9] [3]
  · clear hAt; intro e a w hp; obtain ⟨rfl, hAt⟩ := hp; refine blk_eq ?_; refine then_n ?_; refine wp_seq ?_; obtain ⟨v7, hv7, H⟩ := bindE H
    refine reg [⟨fCp 3, [], [], []⟩,
        ⟨Fact.triv, [(3, some (arrE 3 r_i64 v7))], [(18, some 0)], [(3, none)]⟩] [] [3] hAt
        ⟨ok_cp rfl,
        ok_callM0 (i := 0) (fun K => okM_f_slices_Sortlint_int N K o5 _ hv7) Borrow.arr rfl Try.func115 (by kernel_rfl) (by kernel_rfl) rfl rfl rfl opd0 ⟨opdT, trivial⟩, trivial⟩ (by kernel_rfl) ?_
    clear hAt; intro a w hAt; replace hAt : At B h0 (mkG []) (mkO [(3, arrE 3 r_i64 v7)]) F 22 a w := hAt; refine then_n ?_; refine wp_seq ?_; obtain ⟨v8, hv8, H⟩ := bindE H
    refine reg [⟨fCp 3, [], [], []⟩,
        ⟨Fact.triv, [(3, none), (21, some (arrE 3 r_i64 v8))], [(20, some 0)], [(3, none)]⟩,
        ⟨Fact.triv, [(21, none), (2, some (arrE 3 r_i64 v8))], [], [(21, some 1)]⟩] [] [2] hAt
        ⟨ok_cp rfl,
        ok_callX (i := 0) (okX_f_slices_Compactlint_int N v7 _ hv8) Try.func116 (by kernel_rfl) (by kernel_rfl) rfl rfl rfl rfl opd0 ⟨opdT, trivial⟩,
        (ok_moveOwn (f := Fact.triv) rfl rfl (.inr rfl) (fun _ _ _ => trivial)), trivial⟩ (by kernel_rfl) ?_
    clear hAt; intro a w hAt; replace hAt : At B h0 (mkG []) (mkO [(2, arrE 3 r_i64 v8)]) F 22 a w := hAt; refine then_n ?_; refine wp_ret ?_; have hAt := At.freeze 2 hAt rfl; replace hAt := hAt.pick [2] []; replace hAt : At B h0 (mkG [(2, fV (Rep.slice r_i64) v8)]) (mkO []) F 22 a w := hAt
    cases H
    exact ret1 rfl (rv_tmp rfl rfl) hAt
theorem ok_f_hull_Draught (N : Nat) (x0 : GShip) (x1 : Int) (x2 : Int) (r : GRat × Int) (H : f_hull_Draught N x0 x1 x2 = some r) : FnOk Try.prog 53 [fV GShip.rep x0, fV r_i64 x1, fV r_i64 x2] (fT2 (fV GRat.rep (r.1)) (fV r_i64 (r.2))) := by
  unfold f_hull_Draught at H; refine fn_enter Try.func53 rfl rfl (by kernel_rfl) ?_; intro κ B h0 F a w hAt; refine wp_seq ?_
  refine reg [⟨fRef GShip.rep x0, [], [(0, none)], []⟩,
      ⟨fRef r_i64 x2, [], [(2, none)], []⟩,
      ⟨Fact.triv, [(6, some (boxE 32 GRat.rep (⟨(⟨false, []⟩ : GInt), (⟨false, []⟩ : GInt)⟩ : GRat)))], [], []⟩,
      ⟨fV r_i64 0, [], [], []⟩] [1, 3, 5] [6] hAt
      ⟨ok_box rfl opd0,
      ok_box rfl opd0,
      ok_alloc ty32 rfl rfl,
      ok_assign rfl opdI, trivial⟩ (by kernel_rfl) ?_
  clear hAt; intro a w hAt; replace hAt : At B h0 (mkG [(1, fV r_i64 x1), (3, fRef GShip.rep x0), (5, fRef r_i64 x2)]) (mkO [(6, boxE 32 GRat.rep (⟨(⟨false, []⟩ : GInt), (⟨false, []⟩ : GInt)⟩ : GRat))]) F 67 a w := hAt; refine then_n ?_; refine wp_seq ?_; refine wp_seq ?_; obtain ⟨v1, hv1, H⟩ := bindE H
  refine reg [⟨fV GShip.rep x0, [], [(3, none)], []⟩,
      ⟨fV r_i64 x2, [], [(5, none)], []⟩,
      ⟨fV r_i64 v1, [], [(17, some 0), (18, some 1)], []⟩,
      ⟨fV r_i64 v1, [], [(19, some 2)], []⟩] [1, 3, 5, 8] [6] hAt
      ⟨ok_load ty27 rfl opd0,
      ok_load ty3 rfl opd0,
      ok_call (ok_f_hull_floated N x0 x2 _ hv1) Try.func39 (by kernel_rfl) (by kernel_rfl) rfl ⟨opd0, ⟨opd1, trivial⟩⟩,
      ok_assign rfl opd0, trivial⟩ (by kernel_rfl) ?_
  clear hAt; intro a w hAt; replace hAt : At B h0 (mkG [(1, fV r_i64 x1), (3, fRef GShip.rep x0), (5, fRef r_i64 x2), (8, fV r_i64 v1)]) (mkO [(6, boxE 32 GRat.rep (⟨(⟨false, []⟩ : GInt), (⟨false, []⟩ : GInt)⟩ : GRat))]) F 67 a w := hAt; refine then_n ?_; refine wp_seq ?_
  refine reg [⟨fV r_i64 v1, [], [(8, none)], []⟩,
      ⟨fV Rep.bool (cmpI .neq v1 0), [], [(20, some 0)], []⟩] [1, 3, 5, 8, 21] [6] hAt
      ⟨ok_move rfl opd0,
      ok_cmp (op := .neq) (by simp) rfl rfl opd0 opdI, trivial⟩ (by kernel_rfl) ?_
  clear hAt; intro a w hAt; replace hAt : At B h0 (mkG [(1, fV r_i64 x1), (3, fRef GShip.rep x0), (5, fRef r_i64 x2), (8, fV r_i64 v1), (21, fV Rep.bool (cmpI .neq v1 0))]) (mkO [(6, boxE 32 GRat.rep (⟨(⟨false, []⟩ : GInt), (⟨false, []⟩ : GInt)⟩ : GRat))]) F 67 a w := hAt; refine then_n ?_; refine wp_if hAt (by rfl) ?_ ?_
  · intro hb25; have H := iteT hb25 H; refine wp_seq ?_
    refine reg [⟨fV GRat.rep (⟨(⟨false, []⟩ : GInt), (⟨false, []⟩ : GInt)⟩ : GRat), [], [], []⟩,
        ⟨fV r_i64 v1, [], [(8, none)], []⟩,
        ⟨Fact.triv, [(6, some (boxE 32 GRat.rep (⟨(⟨false, []⟩ : GInt), (⟨false, []⟩ : GInt)⟩ : GRat)))], [(22, some 0)], [(6, none)]⟩,
        ⟨fV r_i64 v1, [], [(23, some 1)], []⟩] [7] [6] hAt
        ⟨ok_build ty32 rfl pl32 rfl fillN,
        ok_move rfl opd0,
        ok_storeBox ty32 rfl rfl opd0,
        ok_assign rfl opd0, trivial⟩ (by kernel_rfl) ?_
    clear hAt; intro a w hAt; replace hAt : At B h0 (mkG [(7, fV r_i64 v1)]) (mkO [(6, boxE 32 GRat.rep (⟨(⟨false, []⟩ : GInt), (⟨false, []⟩ : GInt)⟩ : GRat))]) F 67 a w := hAt; refine then_n ?_; refine wp_ret ?_; refine then_r ?_
    cases H
    exact ret2 rfl (rv_cell ty32 rfl) (rv_tmp rfl rfl) hAt
  · intro hb25; have H := iteF hb25 H; refine wp_skip ?_; refine then_n ?_; refine wp_seq ?_; refine wp_seq ?_; obtain ⟨v2, hv2, H⟩ := bindE H
    refine reg [⟨fV r_i64 x1, [], [(1, none)], []⟩,
        ⟨fV Rep.bool v2, [], [(24, some 0)], []⟩,
        ⟨fV Rep.bool (!v2), [], [(25, some 1)], []⟩] [1, 3, 5, 26] [6] hAt
        ⟨ok_move rfl opd0,
        ok_call (ok_f_hull_between N x1 1 1000000000 _ hv2) Try.func34 (by kernel_rfl) (by kernel_rfl) rfl ⟨opd0, ⟨opdI, ⟨opdI, trivial⟩⟩⟩,
        ok_not rfl opd0, trivial⟩ (by kernel_rfl) ?_
    clear hAt; intro a w hAt; replace hAt : At B h0 (mkG [(1, fV r_i64 x1), (3, fRef GShip.rep x0), (5, fRef r_i64 x2), (26, fV Rep.bool (!v2))]) (mkO [(6, boxE 32 GRat.rep (⟨(⟨false, []⟩ : GInt), (⟨false, []⟩ : GInt)⟩ : GRat))]) F 67 a w := hAt; refine then_n ?_; refine wp_if hAt (by rfl) ?_ ?_
    · intro hb24; have H := iteT hb24 H; refine wp_seq ?_
      refine reg [⟨fV GRat.rep (⟨(⟨false, []⟩ : GInt), (⟨false, []⟩ : GInt)⟩ : GRat), [], [], []⟩,
          ⟨Fact.triv, [(6, some (boxE 32 GRat.rep (⟨(⟨false, []⟩ : GInt), (⟨false, []⟩ : GInt)⟩ : GRat)))], [(27, some 0)], [(6, none)]⟩,
          ⟨fV r_i64 2, [], [], []⟩] [7] [6] hAt
          ⟨ok_build ty32 rfl pl32 rfl fillN,
          ok_storeBox ty32 rfl rfl opd0,
          ok_assign rfl opdI, trivial⟩ (by kernel_rfl) ?_
      clear hAt; intro a w hAt; replace hAt : At B h0 (mkG [(7, fV r_i64 2)]) (mkO [(6, boxE 32 GRat.rep (⟨(⟨false, []⟩ : GInt), (⟨false, []⟩ : GInt)⟩ : GRat))]) F 67 a w := hAt; refine then_n ?_; refine wp_ret ?_; refine then_r ?_
      cases H
      exact ret2 rfl (rv_cell ty32 rfl) (rv_tmp rfl rfl) hAt
    · intro hb24; have H := iteF hb24 H; refine wp_skip ?_; refine then_n ?_; refine wp_seq ?_
      refine reg [⟨fF1 Try.prog r_i64 GRat.rep (fun y0 => f_hull_Draught_1 N y0 x0 x2), [], [(3, none), (5, none)], []⟩,
          ⟨fF1 Try.prog r_i64 GRat.rep (fun y0 => f_hull_Draught_1 N y0 x0 x2), [], [(28, some 0)], []⟩] [1, 3, 9] [6] hAt
          ⟨ok_mkF1 (φ := fun y0 => f_hull_Draught_1 N y0 x0 x2) (fun y0 r H => ok_f_hull_Draught_1 N y0 x0 x2 r H) Try.func93 (by kernel_rfl) (by kernel_rfl) rfl ⟨opd0, ⟨opd1, trivial⟩⟩,
          ok_assign rfl opd0, trivial⟩ (by kernel_rfl) ?_
      clear hAt; intro a w hAt; replace hAt : At B h0 (mkG [(1, fV r_i64 x1), (3, fRef GShip.rep x0), (9, fF1 Try.prog r_i64 GRat.rep (fun y0 => f_hull_Draught_1 N y0 x0 x2))]) (mkO [(6, boxE 32 GRat.rep (⟨(⟨false, []⟩ : GInt), (⟨false, []⟩ : GInt)⟩ : GRat))]) F 67 a w := hAt; refine then_n ?_; refine wp_seq ?_; obtain ⟨v3, hv3, H⟩ := bindE H
      refine reg [⟨fV r_i64 x1, [], [(1, none)], []⟩,
          ⟨fV GRat.rep v3, [], [(29, some 0)], []⟩,
          ⟨Fact.triv, [(10, some (boxE 32 GRat.rep (⟨(⟨false, []⟩ : GInt), (⟨false, []⟩ : GInt)⟩ : GRat)))], [], []⟩,
          ⟨Fact.triv, [(10, some (boxE 32 GRat.rep v3))], [(30, some 1)], [(10, some 2)]⟩] [3, 9] [6, 10] hAt
          ⟨ok_move rfl opd0,
          ok_call (ok_f_hull_whole N x1 _ hv3) Try.func42 (by kernel_rfl) (by kernel_rfl) rfl ⟨opd0, trivial⟩,
          ok_alloc ty32 rfl rfl,
          ok_storeBox ty32 rfl rfl opd0, trivial⟩ (by kernel_rfl) ?_
      clear hAt; intro a w hAt; replace hAt : At B h0 (mkG [(3, fRef GShip.rep x0), (9, fF1 Try.prog r_i64 GRat.rep (fun y0 => f_hull_Draught_1 N y0 x0 x2))]) (mkO [(6, boxE 32 GRat.rep (⟨(⟨false, []⟩ : GInt), (⟨false, []⟩ : GInt)⟩ : GRat)), (10, boxE 32 GRat.rep v3)]) F 67 a w := hAt; refine then_n ?_; refine wp_seq ?_; obtain ⟨v4, hv4, H⟩ := bindE H
      refine reg [⟨fV GRat.rep v4, [], [], []⟩,
          ⟨Fact.triv, [(12, some (boxE 32 GRat.rep (⟨(⟨false, []⟩ : GInt), (⟨false, []⟩ : GInt)⟩ : GRat)))], [], []⟩,
          ⟨fV r_i64 0, [], [], []⟩,
          ⟨Fact.triv, [(12, some (boxE 32 GRat.rep v4))], [(31, some 0)], [(12, some 1)]⟩] [3, 9, 11] [6, 10, 12] hAt
          ⟨ok_call (ok_f_hull_whole N 0 _ hv4) Try.func42 (by kernel_rfl) (by kernel_rfl) rfl ⟨opdI, trivial⟩,
          ok_alloc ty32 rfl rfl,
          ok_assign rfl opdI,
          ok_storeBox ty32 rfl rfl opd0, trivial⟩ (by kernel_rfl) ?_
      clear hAt; intro a w hAt; replace hAt : At B h0 (mkG [(3, fRef GShip.rep x0), (9, fF1 Try.prog r_i64 GRat.rep (fun y0 => f_hull_Draught_1 N y0 x0 x2)), (11, fV r_i64 0)]) (mkO [(6, boxE 32 GRat.rep (⟨(⟨false, []⟩ : GInt), (⟨false, []⟩ : GInt)⟩ : GRat)), (10, boxE 32 GRat.rep v3), (12, boxE 32 GRat.rep v4)]) F 67 a w := hAt; refine then_n ?_; refine wp_seq ?_; refine wp_seq ?_
      obtain ⟨v5, hv5, H⟩ := bindE H
      refine reg [⟨fV GShip.rep x0, [], [(3, none)], []⟩,
          ⟨fV (Rep.slice r_i64) v5, [], [(32, some 0)], []⟩,
          ⟨fV r_i64 (List.length v5 : Int), [], [(33, some 1)], []⟩,
          ⟨fV r_i64 0, [], [], []⟩] [9, 11, 33, 34, 35] [6, 10, 12] hAt
          ⟨ok_load ty27 rfl opd0,
          ok_call (ok_f_hull_heights N x0 _ hv5) Try.func94 (by kernel_rfl) (by kernel_rfl) rfl ⟨opd0, trivial⟩,
          ok_len un69 rfl opd0,
          ok_move rfl opdI, trivial⟩ (by kernel_rfl) ?_
      clear hAt; intro a w hAt; replace hAt : At B h0 (mkG [(9, fF1 Try.prog r_i64 GRat.rep (fun y0 => f_hull_Draught_1 N y0 x0 x2)), (11, fV r_i64 0), (33, fV (Rep.slice r_i64) v5), (34, fV r_i64 (List.length v5 : Int)), (35, fV r_i64 0)]) (mkO [(6, boxE 32 GRat.rep (⟨(⟨false, []⟩ : GInt), (⟨false, []⟩ : GInt)⟩ : GRat)), (10, boxE 32 GRat.rep v3), (12, boxE 32 GRat.rep v4)]) F 67 a w := hAt
      refine then_n ?_; refine wp_block ?_; obtain ⟨o19, hl20, H⟩ := bindE H
      refine wp_mono (wp_loopN (f := f_hull_Draught_L1 N x0 x2 v3 v5) (fun (s6 : (GRat × Int × GRat × Int)) a w => At B h0 (mkG [(9, fF1 Try.prog r_i64 GRat.rep (fun y0 => f_hull_Draught_1 N y0 x0 x2)), (11, fV r_i64 s6.2.1), (33, fV (Rep.slice r_i64) v5), (34, fV r_i64 (List.length v5 : Int)), (35, fV r_i64 s6.2.2.2)]) (mkO [(6, boxE 32 GRat.rep s6.1), (10, boxE 32 GRat.rep v3), (12, boxE 32 GRat.rep s6.2.2.1)]) F 67 a w) (fun o e a w => (Sum.elim (fun v => e = .exit 0 ∧ At B h0 (mkG []) (mkO [(6, boxE 32 GRat.rep v)]) F 67 a w) (fun v => e = .ret ∧ At B h0 (mkG [(7, fV r_i64 v.2)]) (mkO [(6, boxE 32 GRat.rep v.1)]) F 67 a w)) o) ?_ N ((⟨(⟨false, []⟩ : GInt), (⟨false, []⟩ : GInt)⟩ : GRat), 0, v4, 0) o19 _ _ hl20 ?_) ?_
      · clear H hAt hl20; intro s6 r23 a w H hAt; unfold f_hull_Draught_L1 at H; refine wp_seq ?_
        refine reg [⟨fV Rep.bool (cmpI .lss s6.2.2.2 (List.length v5 : Int)), [], [(35, none), (34, none)], []⟩] [9, 11, 33, 34, 35, 36] [6, 10, 12] hAt
            ⟨ok_cmp (op := .lss) (by simp) rfl rfl opd0 opd1, trivial⟩ (by kernel_rfl) ?_
        clear hAt; intro a w hAt
        replace hAt : At B h0 (mkG [(9, fF1 Try.prog r_i64 GRat.rep (fun y0 => f_hull_Draught_1 N y0 x0 x2)), (11, fV r_i64 s6.2.1), (33, fV (Rep.slice r_i64) v5), (34, fV r_i64 (List.length v5 : Int)), (35, fV r_i64 s6.2.2.2), (36, fV Rep.bool (cmpI .lss s6.2.2.2 (List.length v5 : Int)))]) (mkO [(6, boxE 32 GRat.rep s6.1), (10, boxE 32 GRat.rep v3), (12, boxE 32 GRat.rep s6.2.2.1)]) F 67 a w := hAt
        refine then_n ?_; refine wp_seq ?_; refine wp_if hAt (by rfl) ?_ ?_
        · intro hb18; have H := iteT hb18 H; refine wp_skip ?_; refine then_n ?_; refine wp_seq ?_; refine wp_block ?_; refine wp_seq ?_; obtain ⟨v7, hv7, H⟩ := bindE H
          refine reg [⟨fRef r_i64 v7, [], [(33, none), (35, none)], []⟩,
              ⟨fV r_i64 v7, [], [(37, some 0)], []⟩,
              ⟨fV r_i64 v7, [], [(38, some 1)], []⟩] [9, 11, 14, 33, 34, 35] [6, 10, 12] hAt
              ⟨ok_index ty3 un69 hv7 rfl opd0 opd1,
              ok_load ty3 rfl opd0,
              ok_assign rfl opd0, trivial⟩ (by kernel_rfl) ?_
          clear hAt; intro a w hAt; replace hAt : At B h0 (mkG [(9, fF1 Try.prog r_i64 GRat.rep (fun y0 => f_hull_Draught_1 N y0 x0 x2)), (11, fV r_i64 s6.2.1), (14, fV r_i64 v7), (33, fV (Rep.slice r_i64) v5), (34, fV r_i64 (List.length v5 : Int)), (35, fV r_i64 s6.2.2.2)]) (mkO [(6, boxE 32 GRat.rep s6.1), (10, boxE 32 GRat.rep v3), (12, boxE 32 GRat.rep s6.2.2.1)]) F 67 a w := hAt; refine then_n ?_
          refine wp_seq ?_; obtain ⟨v8, hv8, H⟩ := bindE H
          refine reg [⟨fF1 Try.prog r_i64 GRat.rep (fun y0 => f_hull_Draught_1 N y0 x0 x2), [], [(9, none)], []⟩,
              ⟨fV r_i64 v7, [], [(14, none)], []⟩,
              ⟨fV GRat.rep v8, [], [(39, some 0), (40, some 1)], []⟩,
              ⟨Fact.triv, [(15, some (boxE 32 GRat.rep (⟨(⟨false, []⟩ : GInt), (⟨false, []⟩ : GInt)⟩ : GRat)))], [], []⟩,
              ⟨Fact.triv, [(15, some (boxE 32 GRat.rep v8))], [(41, some 2)], [(15, some 3)]⟩] [9, 11, 14, 33, 34, 35] [6, 10, 12, 15] hAt
              ⟨ok_move rfl opd0,
              ok_move rfl opd0,
              ok_callF1 (φ := (fun y0 => f_hull_Draught_1 N y0 x0 x2)) hv8 rfl opd0 ⟨opd1, trivial⟩,
              ok_alloc ty32 rfl rfl,
              ok_storeBox ty32 rfl rfl opd0, trivial⟩ (by kernel_rfl) ?_
          clear hAt; intro a w hAt
          replace hAt : At B h0 (mkG [(9, fF1 Try.prog r_i64 GRat.rep (fun y0 => f_hull_Draught_1 N y0 x0 x2)), (11, fV r_i64 s6.2.1), (14, fV r_i64 v7), (33, fV (Rep.slice r_i64) v5), (34, fV r_i64 (List.length v5 : Int)), (35, fV r_i64 s6.2.2.2)]) (mkO [(6, boxE 32 GRat.rep s6.1), (10, boxE 32 GRat.rep v3), (12, boxE 32 GRat.rep s6.2.2.1), (15, boxE 32 GRat.rep v8)]) F 67 a w := hAt; refine then_n ?_
          refine wp_seq ?_; refine wp_seq ?_; obtain ⟨v9, hv9, H⟩ := bindE H
          refine reg [⟨fV GRat.rep v8, [], [], [(15, none)]⟩,
              ⟨fV GRat.rep v3, [], [], [(10, none)]⟩,
              ⟨fV r_i64 v9, [], [(42, some 0), (43, some 1)], []⟩,
              ⟨fV Rep.bool (cmpI .lss v9 0), [], [(44, some 2)], []⟩] [9, 11, 14, 33, 34, 35, 45] [6, 10, 12, 15] hAt
              ⟨ok_loadBox ty32 rfl,
              ok_loadBox ty32 rfl,
              ok_call (ok_f_exact_CmpRat N v8 v3 _ hv9) Try.func24 (by kernel_rfl) (by kernel_rfl) rfl ⟨opd0, ⟨opd1, trivial⟩⟩,
              ok_cmp (op := .lss) (by simp) rfl rfl opd0 opdI, trivial⟩ (by kernel_rfl) ?_
          clear hAt; intro a w hAt
          replace hAt : At B h0 (mkG [(9, fF1 Try.prog r_i64 GRat.rep (fun y0 => f_hull_Draught_1 N y0 x0 x2)), (11, fV r_i64 s6.2.1), (14, fV r_i64 v7), (33, fV (Rep.slice r_i64) v5), (34, fV r_i64 (List.length v5 : Int)), (35, fV r_i64 s6.2.2.2), (45, fV Rep.bool (cmpI .lss v9 0))]) (mkO [(6, boxE 32 GRat.rep s6.1), (10, boxE 32 GRat.rep v3), (12, boxE 32 GRat.rep s6.2.2.1), (15, boxE 32 GRat.rep v8)]) F 67 a w := hAt
          refine then_n ?_; refine wp_if hAt (by rfl) ?_ ?_
          · intro hb17; have H := iteT hb17 H; refine wp_seq ?_
            refine regd [⟨fV r_i64 v7, [], [(14, none)], []⟩,
                ⟨fV GRat.rep v8, [], [], [(15, none)]⟩,
                ⟨fV r_i64 v7, [], [(46, some 0)], []⟩,
                ⟨Fact.triv, [(12, some (boxE 32 GRat.rep v8))], [(47, some 1)], [(12, none)]⟩] [0, 1, 2, 3] [0, 2, 1, 3] [9, 11, 33, 34, 35] [6, 10, 12] hAt
                ⟨ok_move rfl opd0,
                ok_loadBox ty32 rfl,
                ok_assign rfl opd0,
                ok_storeBox ty32 rfl rfl opd0, trivial⟩ (by kernel_rfl) ?_
            clear hAt; intro a w hAt; replace hAt : At B h0 (mkG [(9, fF1 Try.prog r_i64 GRat.rep (fun y0 => f_hull_Draught_1 N y0 x0 x2)), (11, fV r_i64 v7), (33, fV (Rep.slice r_i64) v5), (34, fV r_i64 (List.length v5 : Int)), (35, fV r_i64 s6.2.2.2)]) (mkO [(6, boxE 32 GRat.rep s6.1), (10, boxE 32 GRat.rep v3), (12, boxE 32 GRat.rep v8)]) F 67 a w := hAt; refine then_n ?_; refine wp_exit ?_
            refine then_x ?_; refine blk_eq ?_; refine then_n ?_
            refine reg [⟨fV r_i64 (IntKind.i64.wrap (s6.2.2.2 + 1)), [], [(35, none)], []⟩,
                ⟨fV r_i64 (IntKind.i64.wrap (s6.2.2.2 + 1)), [], [(65, some 0)], []⟩] [9, 11, 33, 34, 35] [6, 10, 12] hAt
                ⟨ok_add rfl opd0 opdI,
                ok_move rfl opd0, trivial⟩ (by kernel_rfl) ?_
            clear hAt; intro a w hAt; replace hAt : At B h0 (mkG [(9, fF1 Try.prog r_i64 GRat.rep (fun y0 => f_hull_Draught_1 N y0 x0 x2)), (11, fV r_i64 v7), (33, fV (Rep.slice r_i64) v5), (34, fV r_i64 (List.length v5 : Int)), (35, fV r_i64 (IntKind.i64.wrap (s6.2.2.2 + 1)))]) (mkO [(6, boxE 32 GRat.rep s6.1), (10, boxE 32 GRat.rep v3), (12, boxE 32 GRat.rep v8)]) F 67 a w := hAt
            cases H
            exact ⟨rfl, hAt.pick [9, 11, 33, 34, 35] [6, 10, 12]⟩
          · intro hb17; have H := iteF hb17 H; refine wp_skip ?_; refine then_n ?_; refine wp_seq ?_; obtain ⟨v10, hv10, H⟩ := bindE H; obtain ⟨v11, hv11, H⟩ := bindE H; obtain ⟨v12, hv12, H⟩ := bindE H
            refine regd [⟨fV GRat.rep v3, [], [], [(10, none)]⟩,
                ⟨fV GRat.rep s6.2.2.1, [], [], [(12, none)]⟩,
                ⟨fV GRat.rep v10, [], [(48, some 0), (49, some 1)], []⟩,
                ⟨fV GRat.rep v8, [], [], [(15, none)]⟩,
                ⟨fV GRat.rep s6.2.2.1, [], [], [(12, none)]⟩,
                ⟨fV GRat.rep v11, [], [(51, some 3), (52, some 4)], []⟩,
                ⟨fV GRat.rep v12, [], [(50, some 2), (53, some 5)], []⟩,
                ⟨Fact.triv, [(16, some (boxE 32 GRat.rep (⟨(⟨false, []⟩ : GInt), (⟨false, []⟩ : GInt)⟩ : GRat)))], [], []⟩,
                ⟨Fact.triv, [(16, some (boxE 32 GRat.rep v12))], [(54, some 6)], [(16, some 7)]⟩] [0, 1, 2, 3, 4, 5, 6, 7, 8] [0, 1, 2, 3, 4, 5, 6, 7, 8] [11, 14] [6, 16] hAt
                ⟨ok_loadBox ty32 rfl,
                ok_loadBox ty32 rfl,
                ok_call (ok_f_exact_SubRat N v3 s6.2.2.1 _ hv10) Try.func27 (by kernel_rfl) (by kernel_rfl) rfl ⟨opd0, ⟨opd1, trivial⟩⟩,
                ok_loadBox ty32 rfl,
                ok_loadBox ty32 rfl,
                ok_call (ok_f_exact_SubRat N v8 s6.2.2.1 _ hv11) Try.func27 (by kernel_rfl) (by kernel_rfl) rfl ⟨opd0, ⟨opd1, trivial⟩⟩,
                ok_call (ok_f_hull_over N v10 v11 _ hv12) Try.func44 (by kernel_rfl) (by kernel_rfl) rfl ⟨opd0, ⟨opd1, trivial⟩⟩,
                ok_alloc ty32 rfl rfl,
                ok_storeBox ty32 rfl rfl opd0, trivial⟩ (by kernel_rfl) ?_
            clear hAt; intro a w hAt; replace hAt : At B h0 (mkG [(11, fV r_i64 s6.2.1), (14, fV r_i64 v7)]) (mkO [(6, boxE 32 GRat.rep s6.1), (16, boxE 32 GRat.rep v12)]) F 67 a w := hAt; refine then_n ?_; refine wp_seq ?_; obtain ⟨v13, hv13, H⟩ := bindE H; obtain ⟨v14, hv14, H⟩ := bindE H; obtain ⟨v15, hv15, H⟩ := bindE H; obtain ⟨v16, hv16, H⟩ := bindE H
            refine regd [⟨fV r_i64 s6.2.1, [], [(11, none)], []⟩,
                ⟨fV GRat.rep v13, [], [(55, some 0)], []⟩,
                ⟨fV GRat.rep v12, [], [], [(16, none)]⟩,
                ⟨fV r_i64 v7, [], [(14, none)], []⟩,
                ⟨fV r_i64 s6.2.1, [], [(11, none)], []⟩,
                ⟨fV r_i64 (IntKind.i64.wrap (v7 - s6.2.1)), [], [(58, some 3), (59, some 4)], []⟩,
                ⟨fV GRat.rep v14, [], [(60, some 5)], []⟩,
                ⟨fV (Rep.slice GRat.rep) [v12, v14], [], [(57, some 2), (61, some 6)], []⟩,
                ⟨fV GRat.rep v15, [], [(62, some 7)], []⟩,
                ⟨fV GRat.rep v16, [], [(56, some 1), (63, some 8)], []⟩,
                ⟨Fact.triv, [(6, some (boxE 32 GRat.rep v16))], [(64, some 9)], [(6, none)]⟩,
                ⟨fV r_i64 0, [], [], []⟩] [0, 1, 2, 3, 4, 5, 6, 7, 8, 9, 10, 11] [0, 1, 2, 3, 4, 5, 6, 7, 8, 9, 10, 11] [7] [6] hAt
                ⟨ok_move rfl opd0,
                ok_call (ok_f_hull_whole N s6.2.1 _ hv13) Try.func42 (by kernel_rfl) (by kernel_rfl) rfl ⟨opd0, trivial⟩,
                ok_loadBox ty32 rfl,
                ok_move rfl opd0,
                ok_move rfl opd0,
                ok_sub rfl opd0 opd1,
                ok_call (ok_f_hull_whole N (IntKind.i64.wrap (v7 - s6.2.1)) _ hv14) Try.func42 (by kernel_rfl) (by kernel_rfl) rfl ⟨opd0, trivial⟩,
                ok_buildSlice ty32 un126 rfl rfl (fillC (Lens.arr _ _ 0 (by decide)) rfl opd0 (fillC (Lens.arr _ _ 1 (by decide)) rfl opd1 fillN)),
                ok_call (ok_f_hull_times N [v12, v14] _ hv15) Try.func43 (by kernel_rfl) (by kernel_rfl) rfl ⟨opd0, trivial⟩,
                ok_call (ok_f_exact_AddRat N v13 v15 _ hv16) Try.func22 (by kernel_rfl) (by kernel_rfl) rfl ⟨opd0, ⟨opd1, trivial⟩⟩,
                ok_storeBox ty32 rfl rfl opd0,
                ok_assign rfl opdI, trivial⟩ (by kernel_rfl) ?_
            clear hAt; intro a w hAt; replace hAt : At B h0 (mkG [(7, fV r_i64 0)]) (mkO [(6, boxE 32 GRat.rep v16)]) F 67 a w := hAt; refine then_n ?_; refine wp_ret ?_; refine blk_r ?_; refine then_r ?_
            cases H
            exact ⟨ret_ne, rfl, hAt.pick [7] [6]⟩
        · intro hb18; have H := iteF hb18 H; refine wp_exit ?_; refine then_x ?_
          cases H
          exact ⟨ex_ne, rfl, hAt.pick [] [6]⟩
      · exact hAt.pick [9, 11, 33, 34, 35] [6, 10, 12]
      · clear hAt; intro e a w hp
        cases o19 with
        | inl l21 =>
          rw [Sum.elim_inl] at H; obtain ⟨rfl, hAt⟩ := hp; refine blk_eq ?_; refine then_n ?_; refine wp_seq ?_
          refine reg [⟨fV GRat.rep (⟨(⟨false, []⟩ : GInt), (⟨false, []⟩ : GInt)⟩ : GRat), [], [], []⟩,
              ⟨Fact.triv, [(6, some (boxE 32 GRat.rep (⟨(⟨false, []⟩ : GInt), (⟨false, []⟩ : GInt)⟩ : GRat)))], [(66, some 0)], [(6, none)]⟩,
              ⟨fV r_i64 12, [], [], []⟩] [7] [6] hAt
              ⟨ok_build ty32 rfl pl32 rfl fillN,
              ok_storeBox ty32 rfl rfl opd0,
              ok_assign rfl opdI, trivial⟩ (by kernel_rfl) ?_
          clear hAt; intro a w hAt; replace hAt : At B h0 (mkG [(7, fV r_i64 12)]) (mkO [(6, boxE 32 GRat.rep (⟨(⟨false, []⟩ : GInt), (⟨false, []⟩ : GInt)⟩ : GRat))]) F 67 a w := hAt; refine then_n ?_; refine wp_ret ?_
          cases H
          exact ret2 rfl (rv_cell ty32 rfl) (rv_tmp rfl rfl) hAt
        | inr r22 =>
          rw [Sum.elim_inr] at H; replace hp := hp; obtain ⟨rfl, hAt⟩ := hp; refine blk_r ?_; refine then_r ?_
          cases H
          exact ret2 rfl (rv_cell ty32 rfl) (rv_tmp rfl rfl) hAt
theorem okO_f_slices_Growlapi_Load_api_Load_nil (N : Nat) (x1 : Int) (r : (List GLoad)) (H : f_slices_Growlapi_Load_api_Load_nil N x1 = some r) : FnOkO Try.prog 122 [fNilS, fV r_i64 x1] (arrE 24 GLoad.rep r) Fact.triv := by
  unfold f_slices_Growlapi_Load_api_Load_nil at H; refine fn_enterO Try.func122 rfl rfl (by kernel_rfl) ?_; intro κ B h0 F a w hAt; refine wp_seq ?_
  refine reg [⟨Fact.triv, [(4, some (arrE 24 GLoad.rep []))], [], []⟩] [0, 1] [] hAt
      ⟨ok_nilArr rfl (.inl rfl), trivial⟩ (by kernel_rfl) ?_
  clear hAt; intro a w hAt; replace hAt : At B h0 (mkG [(0, fNilS), (1, fV r_i64 x1)]) (mkO []) F 27 a w := hAt; refine then_n ?_; refine wp_seq ?_; obtain ⟨o2, hl3, H⟩ := bindE H; refine wp_mono (Q := (fun o e a w => (fun v => e = .normal ∧ At B h0 (mkG [(0, fNilS), (1, fV r_i64 x1)]) (mkO []) F 27 a w) o) o2) ?_ ?_
  · clear H; have H := hl3; clear hl3; refine wp_seq ?_
    refine reg [⟨fV r_i64 x1, [], [(1, none)], []⟩,
        ⟨fV Rep.bool (cmpI .lss x1 0), [], [(5, some 0)], []⟩] [0, 1, 6] [] hAt
        ⟨ok_move rfl opd0,
        ok_cmp (op := .lss) (by simp) rfl rfl opd0 opdI, trivial⟩ (by kernel_rfl) ?_
    clear hAt; intro a w hAt; replace hAt : At B h0 (mkG [(0, fNilS), (1, fV r_i64 x1), (6, fV Rep.bool (cmpI .lss x1 0))]) (mkO []) F 27 a w := hAt; refine then_n ?_; refine wp_if hAt (by rfl) ?_ ?_
    · intro hb1; have H := iteT hb1 H
      cases H
    · intro hb1; have H := iteF hb1 H; refine wp_skip ?_
      cases H
      exact ⟨rfl, hAt.pick [0, 1] []⟩
  · clear hAt; intro e a w hp; obtain ⟨rfl, hAt⟩ := hp; refine then_n ?_; refine wp_seq ?_; refine wp_seq ?_
    refine reg [⟨fV r_i64 x1, [], [(1, none)], []⟩,
        ⟨fNilS, [], [(0, none)], []⟩,
        ⟨fV r_i64 0, [], [(9, some 1)], []⟩,
        ⟨fNilS, [], [(0, none)], []⟩,
        ⟨fV r_i64 (List.length ([] : (List GLoad)) : Int), [], [(11, some 3)], []⟩,
        ⟨fV r_i64 (IntKind.i64.wrap (0 - (List.length ([] : (List GLoad)) : Int))), [], [(10, some 2), (12, some 4)], []⟩,
        ⟨fV r_i64 (IntKind.i64.wrap (x1 - (IntKind.i64.wrap (0 - (List.length ([] : (List GLoad)) : Int))))), [], [(8, some 0), (13, some 5)], []⟩,
        ⟨fV r_i64 (IntKind.i64.wrap (x1 - (IntKind.i64.wrap (0 - (List.length ([] : (List GLoad)) : Int))))), [], [(14, some 6)], []⟩] [0, 1] [] hAt
        ⟨ok_move rfl opd0,
        ok_move rfl opd0,
        ok_capNil un25 rfl opd0,
        ok_move rfl opd0,
        ok_len un25 rfl (opdNS (r := GLoad.rep) opd0),
        ok_sub rfl opd0 opd1,
        ok_sub rfl opd0 opd1,
        ok_assign rfl opd0, trivial⟩ (by kernel_rfl) ?_
    clear hAt; intro a w hAt; replace hAt : At B h0 (mkG [(0, fNilS), (1, fV r_i64 (IntKind.i64.wrap (x1 - (IntKind.i64.wrap (0 - (List.length ([] : (List GLoad)) : Int))))))]) (mkO []) F 27 a w := hAt; refine then_n ?_; refine wp_seq ?_
    refine reg [⟨fV r_i64 (IntKind.i64.wrap (x1 - (IntKind.i64.wrap (0 - (List.length ([] : (List GLoad)) : Int))))), [], [(1, none)], []⟩,
        ⟨fV Rep.bool (cmpI .gtr (IntKind.i64.wrap (x1 - (IntKind.i64.wrap (0 - (List.length ([] : (List GLoad)) : Int))))) 0), [], [(15, some 0)], []⟩] [0, 1, 16] [] hAt
        ⟨ok_move rfl opd0,
        ok_cmp (op := .gtr) (by simp) rfl rfl opd0 opdI, trivial⟩ (by kernel_rfl) ?_
    clear hAt; intro a w hAt; replace hAt : At B h0 (mkG [(0, fNilS), (1, fV r_i64 (IntKind.i64.wrap (x1 - (IntKind.i64.wrap (0 - (List.length ([] : (List GLoad)) : Int)))))), (16, fV Rep.bool (cmpI .gtr (IntKind.i64.wrap (x1 - (IntKind.i64.wrap (0 - (List.length ([] : (List GLoad)) : Int))))) 0))]) (mkO []) F 27 a w := hAt; refine then_n ?_; refine wp_if hAt (by rfl) ?_ ?_
    · intro hb6; have H := iteT hb6 H; obtain ⟨v4, hv4, H⟩ := bindE H; obtain ⟨v5, hv5, H⟩ := bindE H
      refine reg [⟨fNilS, [], [(0, none)], []⟩,
          ⟨fNilS, [], [(0, none)], []⟩,
          ⟨fV r_i64 0, [], [(18, some 1)], []⟩,
          ⟨fNilS, [], [(17, some 0), (19, some 2)], []⟩,
          ⟨fV r_i64 (IntKind.i64.wrap (x1 - (IntKind.i64.wrap (0 - (List.length ([] : (List GLoad)) : Int))))), [], [(1, none)], []⟩,
          ⟨Fact.triv, [(22, some (arrE 24 GLoad.rep v4))], [(20, some 3), (21, some 4)], []⟩,
          ⟨fNilS, [], [(0, none)], []⟩,
          ⟨fV r_i64 (List.length ([] : (List GLoad)) : Int), [], [(23, some 6)], []⟩,
          ⟨Fact.triv, [(22, none), (25, some (arrE 24 GLoad.rep v5))], [(24, some 7)], [(22, some 5)]⟩,
          ⟨Fact.triv, [(25, none), (0, some (arrE 24 GLoad.rep v5))], [], [(25, some 8)]⟩] [] [0] hAt
          ⟨ok_move rfl opd0,
          ok_move rfl opd0,
          ok_capNil un25 rfl opd0,
          ok_sliceNil ty24 un25 rfl opd0 opd1,
          ok_move rfl opd0,
          ok_appendZ hv4 el24 (by decide) un25 un3 rfl rfl opd0 opd1,
          ok_move rfl opd0,
          ok_len un25 rfl (opdNS (r := GLoad.rep) opd0),
          ok_takeArr rfl hv5 un25 ty24 rfl rfl rfl opdSelf opd0,
          (ok_moveOwn (f := Fact.triv) rfl rfl (.inr rfl) (fun _ _ _ => trivial)), trivial⟩ (by kernel_rfl) ?_
      clear hAt; intro a w hAt; replace hAt : At B h0 (mkG []) (mkO [(0, arrE 24 GLoad.rep v5)]) F 27 a w := hAt; refine then_n ?_; refine wp_seq ?_
      refine reg [⟨fCp 0, [], [], []⟩,
          ⟨Fact.triv, [(0, none), (4, some (arrE 24 GLoad.rep v5))], [(26, some 0)], [(0, none)]⟩] [] [4] hAt
          ⟨ok_cp rfl,
          ok_takeCp rfl rfl (.inr rfl) opd0, trivial⟩ (by kernel_rfl) ?_
      clear hAt; intro a w hAt; replace hAt : At B h0 (mkG []) (mkO [(4, arrE 24 GLoad.rep v5)]) F 27 a w := hAt; refine then_n ?_; refine wp_ret ?_
      cases H
      exact ret1O rfl rfl  hAt
    · intro hb6; have H := iteF hb6 H; refine wp_skip ?_; refine then_n ?_; refine wp_seq ?_
      refine reg [⟨fNilS, [], [(0, none)], []⟩,
          ⟨Fact.triv, [(4, some (arrE 24 GLoad.rep ([] : (List GLoad))))], [(26, some 0)], []⟩] [] [4] hAt
          ⟨ok_move rfl opd0,
          ok_nilArrNS rfl (.inl rfl) opd0, trivial⟩ (by kernel_rfl) ?_
      clear hAt; intro a w hAt; replace hAt : At B h0 (mkG []) (mkO [(4, arrE 24 GLoad.rep ([] : (List GLoad)))]) F 27 a w := hAt; refine then_n ?_; refine wp_ret ?_
      cases H
      exact ret1O rfl rfl  hAt
theorem ok_f_slices_Concatlapi_Load_api_Load (N : Nat) (x0 : (List (List GLoad))) (r : (List GLoad)) (H : f_slices_Concatlapi_Load_api_Load N x0 = some r) : FnOk Try.prog 107 [fV (Rep.slice (Rep.slice GLoad.rep)) x0] (fV (Rep.slice GLoad.rep) r) := by
  unfold f_slices_Concatlapi_Load_api_Load at H; refine fn_enter Try.func107 rfl rfl (by kernel_rfl) ?_; intro κ B h0 F a w hAt; refine wp_seq ?_
  refine reg [⟨fV (Rep.slice GLoad.rep) [], [(2, some (tipE 24 GLoad.rep.sz))], [], []⟩] [0] [] hAt
      ⟨ok_nilTip rfl (.inl rfl), trivial⟩ (by kernel_rfl) ?_
  clear hAt; intro a w hAt; replace hAt : At B h0 (mkG [(0, fV (Rep.slice (Rep.slice GLoad.rep)) x0)]) (mkO []) F 36 a w := hAt; refine then_n ?_; refine wp_seq ?_
  refine reg [⟨fV r_i64 0, [], [], []⟩] [0, 3] [] hAt
      ⟨ok_assign rfl opdI, trivial⟩ (by kernel_rfl) ?_
  clear hAt; intro a w hAt; replace hAt : At B h0 (mkG [(0, fV (Rep.slice (Rep.slice GLoad.rep)) x0), (3, fV r_i64 0)]) (mkO []) F 36 a w := hAt; refine then_n ?_; refine wp_seq ?_; refine wp_seq ?_
  refine reg [⟨fV (Rep.slice (Rep.slice GLoad.rep)) x0, [], [(0, none)], []⟩,
      ⟨fV r_i64 (List.length x0 : Int), [], [(9, some 0)], []⟩,
      ⟨fV r_i64 0, [], [], []⟩] [0, 3, 9, 10, 11] [] hAt
      ⟨ok_move rfl opd0,
      ok_len un155 rfl opd0,
      ok_move rfl opdI, trivial⟩ (by kernel_rfl) ?_
  clear hAt; intro a w hAt; replace hAt : At B h0 (mkG [(0, fV (Rep.slice (Rep.slice GLoad.rep)) x0), (3, fV r_i64 0), (9, fV (Rep.slice (Rep.slice GLoad.rep)) x0), (10, fV r_i64 (List.length x0 : Int)), (11, fV r_i64 0)]) (mkO []) F 36 a w := hAt; refine then_n ?_; refine wp_block ?_; obtain ⟨o5, hl6, H⟩ := bindE H
  refine wp_mono (wp_loopN (f := f_slices_Concatlapi_Load_api_Load_L2 N x0) (fun (s1 : (Int × Int)) a w => At B h0 (mkG [(0, fV (Rep.slice (Rep.slice GLoad.rep)) x0), (3, fV r_i64 s1.1), (9, fV (Rep.slice (Rep.slice GLoad.rep)) x0), (10, fV r_i64 (List.length x0 : Int)), (11, fV r_i64 s1.2)]) (mkO []) F 36 a w) (fun o e a w => (fun v => e = .exit 0 ∧ At B h0 (mkG [(0, fV (Rep.slice (Rep.slice GLoad.rep)) x0), (3, fV r_i64 v)]) (mkO []) F 36 a w) o) ?_ N (0, 0) o5 _ _ hl6 ?_) ?_
  · clear H hAt hl6; intro s1 r15 a w H hAt; unfold f_slices_Concatlapi_Load_api_Load_L2 at H; refine wp_seq ?_
    refine reg [⟨fV Rep.bool (cmpI .lss s1.2 (List.length x0 : Int)), [], [(11, none), (10, none)], []⟩] [0, 3, 9, 10, 11, 12] [] hAt
        ⟨ok_cmp (op := .lss) (by simp) rfl rfl opd0 opd1, trivial⟩ (by kernel_rfl) ?_
    clear hAt; intro a w hAt; replace hAt : At B h0 (mkG [(0, fV (Rep.slice (Rep.slice GLoad.rep)) x0), (3, fV r_i64 s1.1), (9, fV (Rep.slice (Rep.slice GLoad.rep)) x0), (10, fV r_i64 (List.length x0 : Int)), (11, fV r_i64 s1.2), (12, fV Rep.bool (cmpI .lss s1.2 (List.length x0 : Int)))]) (mkO []) F 36 a w := hAt; refine then_n ?_; refine wp_seq ?_; refine wp_if hAt (by rfl) ?_ ?_
    · intro hb4; have H := iteT hb4 H; refine wp_skip ?_; refine then_n ?_; refine wp_seq ?_; refine wp_block ?_; refine wp_seq ?_; obtain ⟨v2, hv2, H⟩ := bindE H
      refine reg [⟨fRef (Rep.slice GLoad.rep) v2, [], [(9, none), (11, none)], []⟩,
          ⟨fV (Rep.slice GLoad.rep) v2, [], [(13, some 0)], []⟩,
          ⟨fV (Rep.slice GLoad.rep) v2, [], [(14, some 1)], []⟩] [0, 3, 5, 9, 10, 11] [] hAt
          ⟨ok_index ty25 un155 hv2 rfl opd0 opd1,
          ok_load ty25 rfl opd0,
          ok_assign rfl opd0, trivial⟩ (by kernel_rfl) ?_
      clear hAt; intro a w hAt; replace hAt : At B h0 (mkG [(0, fV (Rep.slice (Rep.slice GLoad.rep)) x0), (3, fV r_i64 s1.1), (5, fV (Rep.slice GLoad.rep) v2), (9, fV (Rep.slice (Rep.slice GLoad.rep)) x0), (10, fV r_i64 (List.length x0 : Int)), (11, fV r_i64 s1.2)]) (mkO []) F 36 a w := hAt; refine then_n ?_; refine wp_seq ?_
      refine reg [⟨fV r_i64 s1.1, [], [(3, none)], []⟩,
          ⟨fV (Rep.slice GLoad.rep) v2, [], [(5, none)], []⟩,
          ⟨fV r_i64 (List.length v2 : Int), [], [(16, some 1)], []⟩,
          ⟨fV r_i64 (IntKind.i64.wrap (s1.1 + (List.length v2 : Int))), [], [(15, some 0), (17, some 2)], []⟩,
          ⟨fV r_i64 (IntKind.i64.wrap (s1.1 + (List.length v2 : Int))), [], [(18, some 3)], []⟩] [0, 3, 9, 10, 11] [] hAt
          ⟨ok_move rfl opd0,
          ok_move rfl opd0,
          ok_len un25 rfl opd0,
          ok_add rfl opd0 opd1,
          ok_assign rfl opd0, trivial⟩ (by kernel_rfl) ?_
      clear hAt; intro a w hAt; replace hAt : At B h0 (mkG [(0, fV (Rep.slice (Rep.slice GLoad.rep)) x0), (3, fV r_i64 (IntKind.i64.wrap (s1.1 + (List.length v2 : Int)))), (9, fV (Rep.slice (Rep.slice GLoad.rep)) x0), (10, fV r_i64 (List.length x0 : Int)), (11, fV r_i64 s1.2)]) (mkO []) F 36 a w := hAt; refine then_n ?_; refine wp_seq ?_
      refine reg [⟨fV r_i64 (IntKind.i64.wrap (s1.1 + (List.length v2 : Int))), [], [(3, none)], []⟩,
          ⟨fV Rep.bool (cmpI .lss (IntKind.i64.wrap (s1.1 + (List.length v2 : Int))) 0), [], [(19, some 0)], []⟩] [0, 3, 9, 10, 11, 20] [] hAt
          ⟨ok_move rfl opd0,
          ok_cmp (op := .lss) (by simp) rfl rfl opd0 opdI, trivial⟩ (by kernel_rfl) ?_
      clear hAt; intro a w hAt; replace hAt : At B h0 (mkG [(0, fV (Rep.slice (Rep.slice GLoad.rep)) x0), (3, fV r_i64 (IntKind.i64.wrap (s1.1 + (List.length v2 : Int)))), (9, fV (Rep.slice (Rep.slice GLoad.rep)) x0), (10, fV r_i64 (List.length x0 : Int)), (11, fV r_i64 s1.2), (20, fV Rep.bool (cmpI .lss (IntKind.i64.wrap (s1.1 + (List.length v2 : Int))) 0))]) (mkO []) F 36 a w := hAt; refine then_n ?_
      refine wp_if hAt (by rfl) ?_ ?_
      · intro hb3; have H := iteT hb3 H
        cases H
      · intro hb3; have H := iteF hb3 H; refine wp_skip ?_; refine blk_n ?_; refine then_n ?_
        refine reg [⟨fV r_i64 (IntKind.i64.wrap (s1.2 + 1)), [], [(11, none)], []⟩,
            ⟨fV r_i64 (IntKind.i64.wrap (s1.2 + 1)), [], [(22, some 0)], []⟩] [0, 3, 9, 10, 11] [] hAt
            ⟨ok_add rfl opd0 opdI,
            ok_move rfl opd0, trivial⟩ (by kernel_rfl) ?_
        clear hAt; intro a w hAt; replace hAt : At B h0 (mkG [(0, fV (Rep.slice (Rep.slice GLoad.rep)) x0), (3, fV r_i64 (IntKind.i64.wrap (s1.1 + (List.length v2 : Int)))), (9, fV (Rep.slice (Rep.slice GLoad.rep)) x0), (10, fV r_i64 (List.length x0 : Int)), (11, fV r_i64 (IntKind.i64.wrap (s1.2 + 1)))]) (mkO []) F 36 a w := hAt
        cases H
        exact ⟨rfl, hAt.pick [0, 3, 9, 10, 11] []⟩
    · intro hb4; have H := iteF hb4 H; refine wp_exit ?_; refine then_x ?_
      cases H
      exact ⟨ex_ne, rfl, hAt.pick [0, 3] []⟩
  · exact hAt.pick [0, 3, 9, 10, 11] []
  · clear hAt; intro e a w hp; obtain ⟨rfl, hAt⟩ := hp; refine blk_eq ?_; refine then_n ?_; refine wp_seq ?_; obtain ⟨v7, hv7, H⟩ := bindE H
    refine reg [⟨fV r_i64 o5, [], [(3, none)], []⟩,
        ⟨Fact.triv, [(24, some (arrE 24 GLoad.rep v7))], [(23, some 0)], []⟩,
        ⟨Fact.triv, [(24, none), (6, some (arrE 24 GLoad.rep v7))], [], [(24, some 1)]⟩] [0] [6] hAt
        ⟨ok_move rfl opd0,
        ok_callO (okO_f_slices_Growlapi_Load_api_Load_nil N o5 _ hv7) Try.func122 (by kernel_rfl) (by kernel_rfl) rfl rfl ⟨opdN0, ⟨opd0, trivial⟩⟩,
        (ok_moveOwn (f := Fact.triv) rfl rfl (.inr rfl) (fun _ _ _ => trivial)), trivial⟩ (by kernel_rfl) ?_
    clear hAt; intro a w hAt; replace hAt : At B h0 (mkG [(0, fV (Rep.slice (Rep.slice GLoad.rep)) x0)]) (mkO [(6, arrE 24 GLoad.rep v7)]) F 36 a w := hAt; refine then_n ?_; refine wp_seq ?_; refine wp_seq ?_
    refine reg [⟨fV (Rep.slice (Rep.slice GLoad.rep)) x0, [], [(0, none)], []⟩,
        ⟨fV r_i64 (List.length x0 : Int), [], [(25, some 0)], []⟩,
        ⟨fV r_i64 0, [], [], []⟩] [25, 26, 27] [6] hAt
        ⟨ok_move rfl opd0,
        ok_len un155 rfl opd0,
        ok_move rfl opdI, trivial⟩ (by kernel_rfl) ?_
    clear hAt; intro a w hAt; replace hAt : At B h0 (mkG [(25, fV (Rep.slice (Rep.slice GLoad.rep)) x0), (26, fV r_i64 (List.length x0 : Int)), (27, fV r_i64 0)]) (mkO [(6, arrE 24 GLoad.rep v7)]) F 36 a w := hAt; refine then_n ?_; refine wp_block ?_; obtain ⟨o12, hl13, H⟩ := bindE H
    refine wp_mono (wp_loopN (f := f_slices_Concatlapi_Load_api_Load_L1 N x0) (fun (s8 : ((List GLoad) × Int)) a w => At B h0 (mkG [(25, fV (Rep.slice (Rep.slice GLoad.rep)) x0), (26, fV r_i64 (List.length x0 : Int)), (27, fV r_i64 s8.2)]) (mkO [(6, arrE 24 GLoad.rep s8.1)]) F 36 a w) (fun o e a w => (fun v => e = .exit 2 ∧ At B h0 (mkG []) (mkO [(6, arrE 24 GLoad.rep v)]) F 36 a w) o) ?_ N (v7, 0) o12 _ _ hl13 ?_) ?_
    · clear H hAt hl13; intro s8 r14 a w H hAt; unfold f_slices_Concatlapi_Load_api_Load_L1 at H; refine wp_seq ?_
      refine reg [⟨fV Rep.bool (cmpI .lss s8.2 (List.length x0 : Int)), [], [(27, none), (26, none)], []⟩] [25, 26, 27, 28] [6] hAt
          ⟨ok_cmp (op := .lss) (by simp) rfl rfl opd0 opd1, trivial⟩ (by kernel_rfl) ?_
      clear hAt; intro a w hAt; replace hAt : At B h0 (mkG [(25, fV (Rep.slice (Rep.slice GLoad.rep)) x0), (26, fV r_i64 (List.length x0 : Int)), (27, fV r_i64 s8.2), (28, fV Rep.bool (cmpI .lss s8.2 (List.length x0 : Int)))]) (mkO [(6, arrE 24 GLoad.rep s8.1)]) F 36 a w := hAt; refine then_n ?_; refine wp_seq ?_; refine wp_if hAt (by rfl) ?_ ?_
      · intro hb11; have H := iteT hb11 H; refine wp_skip ?_; refine then_n ?_; refine wp_seq ?_; refine wp_block ?_; refine wp_seq ?_; obtain ⟨v9, hv9, H⟩ := bindE H
        refine reg [⟨fRef (Rep.slice GLoad.rep) v9, [], [(25, none), (27, none)], []⟩,
            ⟨fV (Rep.slice GLoad.rep) v9, [], [(29, some 0)], []⟩,
            ⟨fV (Rep.slice GLoad.rep) v9, [], [(30, some 1)], []⟩] [8, 25, 26, 27] [6] hAt
            ⟨ok_index ty25 un155 hv9 rfl opd0 opd1,
            ok_load ty25 rfl opd0,
            ok_assign rfl opd0, trivial⟩ (by kernel_rfl) ?_
        clear hAt; intro a w hAt; replace hAt : At B h0 (mkG [(8, fV (Rep.slice GLoad.rep) v9), (25, fV (Rep.slice (Rep.slice GLoad.rep)) x0), (26, fV r_i64 (List.length x0 : Int)), (27, fV r_i64 s8.2)]) (mkO [(6, arrE 24 GLoad.rep s8.1)]) F 36 a w := hAt; refine then_n ?_; obtain ⟨v10, hv10, H⟩ := bindE H
        refine reg [⟨fCp 6, [], [], []⟩,
            ⟨fV (Rep.slice GLoad.rep) v9, [], [(8, none)], []⟩,
            ⟨Fact.triv, [(6, none), (33, some (arrE 24 GLoad.rep v10))], [(31, some 0), (32, some 1)], [(6, none)]⟩,
            ⟨Fact.triv, [(33, none), (6, some (arrE 24 GLoad.rep v10))], [], [(33, some 2)]⟩] [25, 26, 27] [6] hAt
            ⟨ok_cp rfl,
            ok_move rfl opd0,
            ok_appendArr hv10 el24 un25 rfl rfl rfl opd0 opd1,
            (ok_moveOwn (f := Fact.triv) rfl rfl (.inr rfl) (fun _ _ _ => trivial)), trivial⟩ (by kernel_rfl) ?_
        clear hAt; intro a w hAt; replace hAt : At B h0 (mkG [(25, fV (Rep.slice (Rep.slice GLoad.rep)) x0), (26, fV r_i64 (List.length x0 : Int)), (27, fV r_i64 s8.2)]) (mkO [(6, arrE 24 GLoad.rep v10)]) F 36 a w := hAt; refine blk_n ?_; refine then_n ?_
        refine reg [⟨fV r_i64 (IntKind.i64.wrap (s8.2 + 1)), [], [(27, none)], []⟩,
            ⟨fV r_i64 (IntKind.i64.wrap (s8.2 + 1)), [], [(34, some 0)], []⟩] [25, 26, 27] [6] hAt
            ⟨ok_add rfl opd0 opdI,
            ok_move rfl opd0, trivial⟩ (by kernel_rfl) ?_
        clear hAt; intro a w hAt; replace hAt : At B h0 (mkG [(25, fV (Rep.slice (Rep.slice GLoad.rep)) x0), (26, fV r_i64 (List.length x0 : Int)), (27, fV r_i64 (IntKind.i64.wrap (s8.2 + 1)))]) (mkO [(6, arrE 24 GLoad.rep v10)]) F 36 a w := hAt
        cases H
        exact ⟨rfl, hAt.pick [25, 26, 27] [6]⟩
      · intro hb11; have H := iteF hb11 H; refine wp_exit ?_; refine then_x ?_
        cases H
        exact ⟨ex_ne, rfl, hAt.pick [] [6]⟩
    · exact hAt.pick [25, 26, 27] [6]
    · clear hAt; intro e a w hp; obtain ⟨rfl, hAt⟩ := hp; refine blk_eq ?_; refine then_n ?_; refine wp_seq ?_; have hAt := At.freeze 6 hAt rfl; replace hAt := hAt.pick [6] []; replace hAt : At B h0 (mkG [(6, fV (Rep.slice GLoad.rep) o12)]) (mkO []) F 36 a w := hAt
      refine reg [⟨fV (Rep.slice GLoad.rep) o12, [], [(6, none)], []⟩,
          ⟨fV (Rep.slice GLoad.rep) o12, [], [(35, some 0)], []⟩] [2] [] hAt
          ⟨ok_move rfl opd0,
          ok_assign rfl opd0, trivial⟩ (by kernel_rfl) ?_
      clear hAt; intro a w hAt; replace hAt : At B h0 (mkG [(2, fV (Rep.slice GLoad.rep) o12)]) (mkO []) F 36 a w := hAt; refine then_n ?_; refine wp_ret ?_
      cases H
      exact ret1 rfl (rv_tmp rfl rfl) hAt
theorem ok_f_hull_loads (N : Nat) (x0 : GShip) (r : (List GLoad)) (H : f_hull_loads N x0 = some r) : FnOk Try.prog 81 [fV GShip.rep x0] (fV (Rep.slice GLoad.rep) r) := by
  unfold f_hull_loads at H; refine fn_enter Try.func81 rfl rfl (by kernel_rfl) ?_; intro κ B h0 F a w hAt; refine wp_seq ?_
  refine reg [⟨fRef GShip.rep x0, [], [(0, none)], []⟩,
      ⟨fV (Rep.slice GLoad.rep) [], [(2, some (tipE 24 GLoad.rep.sz))], [], []⟩] [1] [] hAt
      ⟨ok_box rfl opd0,
      ok_nilTip rfl (.inl rfl), trivial⟩ (by kernel_rfl) ?_
  clear hAt; intro a w hAt; replace hAt : At B h0 (mkG [(1, fRef GShip.rep x0)]) (mkO []) F 10 a w := hAt; refine then_n ?_; refine wp_seq ?_; obtain ⟨v1, hv1, H⟩ := bindE H
  refine reg [⟨fRef GLoad.rep x0.Light, [], [(1, none)], []⟩,
      ⟨fV GLoad.rep x0.Light, [], [(3, some 0)], []⟩,
      ⟨fV (Rep.slice GLoad.rep) [x0.Light], [], [(4, some 1)], []⟩,
      ⟨fRef (Rep.slice GLoad.rep) x0.Items, [], [(1, none)], []⟩,
      ⟨fV (Rep.slice GLoad.rep) x0.Items, [], [(6, some 3)], []⟩,
      ⟨fV (Rep.slice (Rep.slice GLoad.rep)) [[x0.Light], x0.Items], [], [(5, some 2), (7, some 4)], []⟩,
      ⟨fV (Rep.slice GLoad.rep) v1, [], [(8, some 5)], []⟩,
      ⟨fV (Rep.slice GLoad.rep) v1, [], [(9, some 6)], []⟩] [2] [] hAt
      ⟨ok_field GShip.l3 fo27_3 rfl opd0,
      ok_load ty24 rfl opd0,
      ok_buildSlice ty24 un25 rfl rfl (fillC (Lens.arr _ _ 0 (by decide)) rfl opd0 fillN),
      ok_field GShip.l4 fo27_4 rfl opd0,
      ok_load ty25 rfl opd0,
      ok_buildSlice ty25 un155 rfl rfl (fillC (Lens.arr _ _ 0 (by decide)) rfl opd0 (fillC (Lens.arr _ _ 1 (by decide)) rfl opd1 fillN)),
      ok_call (ok_f_slices_Concatlapi_Load_api_Load N [[x0.Light], x0.Items] _ hv1) Try.func107 (by kernel_rfl) (by kernel_rfl) rfl ⟨opd0, trivial⟩,
      ok_assign rfl opd0, trivial⟩ (by kernel_rfl) ?_
  clear hAt; intro a w hAt; replace hAt : At B h0 (mkG [(2, fV (Rep.slice GLoad.rep) v1)]) (mkO []) F 10 a w := hAt; refine then_n ?_; refine wp_ret ?_
  cases H
  exact ret1 rfl (rv_tmp rfl rfl) hAt
end Go.KB
