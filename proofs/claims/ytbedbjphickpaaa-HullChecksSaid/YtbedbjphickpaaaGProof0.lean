/- The Go functions compute what the plain functions compute. Printed by a program. No condition. -/
import Derived.Test.YtbedbjphickpaaaGTy
import Derived.Test.YtbedbjphickpaaaGPure
namespace Go.KB
open Go.Proofs
set_option maxRecDepth 100000
set_option linter.unusedVariables false
theorem ok_f_law02_barge (N : Nat) (r : GShip) (H : f_law02_barge N = some r) : FnOk Try.prog 51 [] (fV GShip.rep r) := by
  unfold f_law02_barge at H; refine fn_enter Try.func51 rfl rfl (by kernel_rfl) ?_; intro κ B h0 F a w hAt; refine wp_seq ?_
  refine reg [⟨Fact.triv, [(0, some (boxE 27 GShip.rep (⟨[], 0, [], (⟨[], 0, 0, 0, 0⟩ : GLoad), []⟩ : GShip)))], [], []⟩] [] [0] hAt
      ⟨ok_alloc ty27 rfl rfl, trivial⟩ (by kernel_rfl) ?_
  clear hAt; intro a w hAt; replace hAt : At B h0 (mkG []) (mkO [(0, boxE 27 GShip.rep (⟨[], 0, [], (⟨[], 0, 0, 0, 0⟩ : GLoad), []⟩ : GShip))]) F 7 a w := hAt; refine then_n ?_; refine wp_seq ?_
  refine reg [⟨fV (Rep.slice r_i64) [0, 3000], [], [], []⟩,
      ⟨fV (Rep.slice r_i64) [4000], [], [], []⟩,
      ⟨fV GStation.rep (⟨10000, 20000, [0, 3000], [4000]⟩ : GStation), [], [(1, some 0), (2, some 1)], []⟩,
      ⟨fV (Rep.slice GStation.rep) [(⟨10000, 20000, [0, 3000], [4000]⟩ : GStation)], [], [(3, some 2)], []⟩,
      ⟨fV GLoad.rep (⟨([76, 105, 103, 104, 116] : Str), 320000, 10000, 2000, 0⟩ : GLoad), [], [], []⟩,
      ⟨fV GShip.rep (⟨([66, 97, 114, 103, 101] : Str), 20000, [(⟨10000, 20000, [0, 3000], [4000]⟩ : GStation)], (⟨([76, 105, 103, 104, 116] : Str), 320000, 10000, 2000, 0⟩ : GLoad), []⟩ : GShip), [], [(4, some 3), (5, some 4)], []⟩,
      ⟨Fact.triv, [(0, some (boxE 27 GShip.rep (⟨([66, 97, 114, 103, 101] : Str), 20000, [(⟨10000, 20000, [0, 3000], [4000]⟩ : GStation)], (⟨([76, 105, 103, 104, 116] : Str), 320000, 10000, 2000, 0⟩ : GLoad), []⟩ : GShip)))], [(6, some 5)], [(0, none)]⟩] [] [0] hAt
      ⟨ok_buildSlice ty3 un69 rfl rfl (fillC (Lens.arr _ _ 0 (by decide)) rfl opdI (fillC (Lens.arr _ _ 1 (by decide)) rfl opdI fillN)),
      ok_buildSlice ty3 un69 rfl rfl (fillC (Lens.arr _ _ 0 (by decide)) rfl opdI fillN),
      ok_build ty71 rfl pl71 rfl (fillC GStation.l0 rfl opdI (fillC GStation.l1 rfl opdI (fillC GStation.l2 rfl opd0 (fillC GStation.l3 rfl opd1 fillN)))),
      ok_buildSlice ty71 un22 rfl rfl (fillC (Lens.arr _ _ 0 (by decide)) rfl opd0 fillN),
      ok_build ty24 rfl pl24 rfl (fillC GLoad.l0 rfl (opdS rfl) (fillC GLoad.l1 rfl opdI (fillC GLoad.l2 rfl opdI (fillC GLoad.l3 rfl opdI fillN)))),
      ok_build ty27 rfl pl27 rfl (fillC GShip.l0 rfl (opdS rfl) (fillC GShip.l1 rfl opdI (fillC GShip.l2 rfl opd0 (fillC GShip.l3 rfl opd1 fillN)))),
      ok_storeBox ty27 rfl rfl opd0, trivial⟩ (by kernel_rfl) ?_
  clear hAt; intro a w hAt; replace hAt : At B h0 (mkG []) (mkO [(0, boxE 27 GShip.rep (⟨([66, 97, 114, 103, 101] : Str), 20000, [(⟨10000, 20000, [0, 3000], [4000]⟩ : GStation)], (⟨([76, 105, 103, 104, 116] : Str), 320000, 10000, 2000, 0⟩ : GLoad), []⟩ : GShip))]) F 7 a w := hAt; refine then_n ?_; refine wp_ret ?_
  cases H
  exact ret1 rfl (rv_cell ty27 rfl) hAt
theorem ok_f_base_limbs (N : Nat) (x0 : Int) (r : (List Int)) (H : f_base_limbs N x0 = some r) : FnOk Try.prog 73 [fV r_u64 x0] (fV (Rep.slice r_u16) r) := by
  unfold f_base_limbs at H; refine fn_enter Try.func73 rfl rfl (by kernel_rfl) ?_; intro κ B h0 F a w hAt; refine wp_seq ?_
  refine reg [⟨fV (Rep.slice r_u16) [], [(2, some (tipE 35 r_u16.sz))], [], []⟩] [0] [] hAt
      ⟨ok_nilTip rfl (.inl rfl), trivial⟩ (by kernel_rfl) ?_
  clear hAt; intro a w hAt; replace hAt : At B h0 (mkG [(0, fV r_u64 x0)]) (mkO []) F 15 a w := hAt; refine then_n ?_; refine wp_seq ?_
  refine reg [⟨fV (Rep.slice r_u16) [], [(3, some (tipE 35 r_u16.sz))], [], []⟩] [0, 3] [3] hAt
      ⟨ok_nilTip rfl (.inl rfl), trivial⟩ (by kernel_rfl) ?_
  clear hAt; intro a w hAt; replace hAt : At B h0 (mkG [(0, fV r_u64 x0), (3, fV (Rep.slice r_u16) [])]) (mkO [(3, tipE 35 r_u16.sz)]) F 15 a w := hAt; refine then_n ?_; refine wp_seq ?_; refine wp_block ?_; obtain ⟨o5, hl6, H⟩ := bindE H
  refine wp_mono (wp_loopN (f := f_base_limbs_L1 N) (fun (s1 : (Int × (List Int))) a w => At B h0 (mkG [(0, fV r_u64 s1.1), (3, fV (Rep.slice r_u16) s1.2)]) (mkO [(3, tipE 35 r_u16.sz)]) F 15 a w) (fun o e a w => (fun v => e = .exit 0 ∧ At B h0 (mkG [(3, fV (Rep.slice r_u16) v)]) (mkO [(3, tipE 35 r_u16.sz)]) F 15 a w) o) ?_ N (x0, []) o5 _ _ hl6 ?_) ?_
  · clear H hAt hl6; intro s1 r7 a w H hAt; unfold f_base_limbs_L1 at H; refine wp_seq ?_; refine wp_seq ?_
    refine reg [⟨fV r_u64 s1.1, [], [(0, none)], []⟩,
        ⟨fV Rep.bool (cmpI .gtr s1.1 0), [], [(4, some 0)], []⟩] [0, 3, 5] [3] hAt
        ⟨ok_move rfl opd0,
        ok_cmp (op := .gtr) (by simp) rfl rfl opd0 opdI, trivial⟩ (by kernel_rfl) ?_
    clear hAt; intro a w hAt; replace hAt : At B h0 (mkG [(0, fV r_u64 s1.1), (3, fV (Rep.slice r_u16) s1.2), (5, fV Rep.bool (cmpI .gtr s1.1 0))]) (mkO [(3, tipE 35 r_u16.sz)]) F 15 a w := hAt; refine then_n ?_; refine wp_if hAt (by rfl) ?_ ?_
    · intro hb4; have H := iteT hb4 H; refine wp_skip ?_; refine then_n ?_; refine wp_seq ?_; refine wp_block ?_; obtain ⟨v2, hv2, H⟩ := bindE H
      refine reg [⟨fV (Rep.slice r_u16) s1.2, [(3, none), (8, some (tipE 35 r_u16.sz))], [(3, none)], [(3, none)]⟩,
          ⟨fV r_u64 s1.1, [], [(0, none)], []⟩,
          ⟨fV r_u64 (bitI .and .u64 s1.1 65535), [], [(9, some 1)], []⟩,
          ⟨fV r_u16 (IntKind.u16.wrap (bitI .and .u64 s1.1 65535)), [], [(10, some 2)], []⟩,
          ⟨fV (Rep.slice r_u16) [(IntKind.u16.wrap (bitI .and .u64 s1.1 65535))], [], [(11, some 3)], []⟩,
          ⟨fV (Rep.slice r_u16) v2, [(8, none), (13, some (tipE 35 r_u16.sz))], [(8, some 0), (12, some 4)], [(8, some 0)]⟩,
          ⟨fV (Rep.slice r_u16) v2, [(13, none), (3, some (tipE 35 r_u16.sz))], [(13, some 5)], [(13, some 5)]⟩] [0, 3] [3] hAt
          ⟨ok_moveOwn rfl rfl (.inl rfl) opd0,
          ok_move rfl opd0,
          ok_bit (op := .and) (by simp) rfl opd0 opdI,
          ok_conv un109 un35 rfl opd0,
          ok_buildSlice ty35 un28 rfl rfl (fillC (Lens.arr _ _ 0 (by decide)) rfl opd0 fillN),
          ok_append hv2 el35 un28 rfl rfl rfl opd0 opd1,
          ok_moveOwn rfl rfl (.inr rfl) opd0, trivial⟩ (by kernel_rfl) ?_
      clear hAt; intro a w hAt; replace hAt : At B h0 (mkG [(0, fV r_u64 s1.1), (3, fV (Rep.slice r_u16) v2)]) (mkO [(3, tipE 35 r_u16.sz)]) F 15 a w := hAt; refine blk_n ?_; refine then_n ?_; obtain ⟨v3, hv3, H⟩ := bindE H
      refine reg [⟨fV r_u64 s1.1, [], [(0, none)], []⟩,
          ⟨fV r_u64 v3, [], [(6, some 0)], []⟩,
          ⟨fV r_u64 v3, [], [(7, some 1)], []⟩] [0, 3] [3] hAt
          ⟨ok_move rfl opd0,
          ok_shr hv3 rfl opd0 opdI,
          ok_assign rfl opd0, trivial⟩ (by kernel_rfl) ?_
      clear hAt; intro a w hAt; replace hAt : At B h0 (mkG [(0, fV r_u64 v3), (3, fV (Rep.slice r_u16) v2)]) (mkO [(3, tipE 35 r_u16.sz)]) F 15 a w := hAt
      cases H
      exact ⟨rfl, hAt.pick [0, 3] [3]⟩
    · intro hb4; have H := iteF hb4 H; refine wp_exit ?_; refine then_x ?_
      cases H
      exact ⟨ex_ne, rfl, hAt.pick [3] [3]⟩
  · exact hAt.pick [0, 3] [3]
  · clear hAt; intro e a w hp; obtain ⟨rfl, hAt⟩ := hp; refine blk_eq ?_; refine then_n ?_; refine wp_seq ?_
    refine reg [⟨fV (Rep.slice r_u16) o5, [], [(3, none)], []⟩,
        ⟨fV (Rep.slice r_u16) o5, [], [(14, some 0)], []⟩] [2] [] hAt
        ⟨ok_move rfl opd0,
        ok_assign rfl opd0, trivial⟩ (by kernel_rfl) ?_
    clear hAt; intro a w hAt; replace hAt : At B h0 (mkG [(2, fV (Rep.slice r_u16) o5)]) (mkO []) F 15 a w := hAt; refine then_n ?_; refine wp_ret ?_
    cases H
    exact ret1 rfl (rv_tmp rfl rfl) hAt
theorem ok_f_base_Z (N : Nat) (x0 : Int) (r : GInt) (H : f_base_Z N x0 = some r) : FnOk Try.prog 32 [fV r_i64 x0] (fV GInt.rep r) := by
  unfold f_base_Z at H; refine fn_enter Try.func32 rfl rfl (by kernel_rfl) ?_; intro κ B h0 F a w hAt; refine wp_seq ?_
  refine reg [⟨Fact.triv, [(2, some (boxE 30 GInt.rep (⟨false, []⟩ : GInt)))], [], []⟩] [0] [2] hAt
      ⟨ok_alloc ty30 rfl rfl, trivial⟩ (by kernel_rfl) ?_
  clear hAt; intro a w hAt; replace hAt : At B h0 (mkG [(0, fV r_i64 x0)]) (mkO [(2, boxE 30 GInt.rep (⟨false, []⟩ : GInt))]) F 16 a w := hAt; refine then_n ?_; refine wp_seq ?_; refine wp_seq ?_
  refine reg [⟨fV r_i64 x0, [], [(0, none)], []⟩,
      ⟨fV Rep.bool (cmpI .lss x0 0), [], [(3, some 0)], []⟩] [0, 4] [2] hAt
      ⟨ok_move rfl opd0,
      ok_cmp (op := .lss) (by simp) rfl rfl opd0 opdI, trivial⟩ (by kernel_rfl) ?_
  clear hAt; intro a w hAt; replace hAt : At B h0 (mkG [(0, fV r_i64 x0), (4, fV Rep.bool (cmpI .lss x0 0))]) (mkO [(2, boxE 30 GInt.rep (⟨false, []⟩ : GInt))]) F 16 a w := hAt; refine then_n ?_; refine wp_if hAt (by rfl) ?_ ?_
  · intro hb3; have H := iteT hb3 H; refine wp_seq ?_; obtain ⟨v1, hv1, H⟩ := bindE H
    refine reg [⟨fV r_i64 x0, [], [(0, none)], []⟩,
        ⟨fV r_i64 (IntKind.i64.wrap (x0 + 1)), [], [(5, some 0)], []⟩,
        ⟨fV r_i64 (IntKind.i64.wrap (0 - (IntKind.i64.wrap (x0 + 1)))), [], [(6, some 1)], []⟩,
        ⟨fV r_u64 (IntKind.u64.wrap (IntKind.i64.wrap (0 - (IntKind.i64.wrap (x0 + 1))))), [], [(7, some 2)], []⟩,
        ⟨fV r_u64 (IntKind.u64.wrap ((IntKind.u64.wrap (IntKind.i64.wrap (0 - (IntKind.i64.wrap (x0 + 1))))) + 1)), [], [(8, some 3)], []⟩,
        ⟨fV (Rep.slice r_u16) v1, [], [(9, some 4)], []⟩,
        ⟨fV GInt.rep (⟨true, v1⟩ : GInt), [], [(10, some 5)], []⟩,
        ⟨Fact.triv, [(2, some (boxE 30 GInt.rep (⟨true, v1⟩ : GInt)))], [(11, some 6)], [(2, none)]⟩] [] [2] hAt
        ⟨ok_move rfl opd0,
        ok_add rfl opd0 opdI,
        ok_neg rfl opd0,
        ok_conv un3 un109 rfl opd0,
        ok_add rfl opd0 opdI,
        ok_call (ok_f_base_limbs N (IntKind.u64.wrap ((IntKind.u64.wrap (IntKind.i64.wrap (0 - (IntKind.i64.wrap (x0 + 1))))) + 1)) _ hv1) Try.func73 (by kernel_rfl) (by kernel_rfl) rfl ⟨opd0, trivial⟩,
        ok_build ty30 rfl pl30 rfl (fillC GInt.l0 rfl opdB (fillC GInt.l1 rfl opd0 fillN)),
        ok_storeBox ty30 rfl rfl opd0, trivial⟩ (by kernel_rfl) ?_
    clear hAt; intro a w hAt; replace hAt : At B h0 (mkG []) (mkO [(2, boxE 30 GInt.rep (⟨true, v1⟩ : GInt))]) F 16 a w := hAt; refine then_n ?_; refine wp_ret ?_; refine then_r ?_
    cases H
    exact ret1 rfl (rv_cell ty30 rfl) hAt
  · intro hb3; have H := iteF hb3 H; refine wp_skip ?_; refine then_n ?_; refine wp_seq ?_; obtain ⟨v2, hv2, H⟩ := bindE H
    refine reg [⟨fV r_i64 x0, [], [(0, none)], []⟩,
        ⟨fV r_u64 (IntKind.u64.wrap x0), [], [(12, some 0)], []⟩,
        ⟨fV (Rep.slice r_u16) v2, [], [(13, some 1)], []⟩,
        ⟨fV GInt.rep (⟨false, v2⟩ : GInt), [], [(14, some 2)], []⟩,
        ⟨Fact.triv, [(2, some (boxE 30 GInt.rep (⟨false, v2⟩ : GInt)))], [(15, some 3)], [(2, none)]⟩] [] [2] hAt
        ⟨ok_move rfl opd0,
        ok_conv un3 un109 rfl opd0,
        ok_call (ok_f_base_limbs N (IntKind.u64.wrap x0) _ hv2) Try.func73 (by kernel_rfl) (by kernel_rfl) rfl ⟨opd0, trivial⟩,
        ok_build ty30 rfl pl30 rfl (fillC GInt.l1 rfl opd0 fillN),
        ok_storeBox ty30 rfl rfl opd0, trivial⟩ (by kernel_rfl) ?_
    clear hAt; intro a w hAt; replace hAt : At B h0 (mkG []) (mkO [(2, boxE 30 GInt.rep (⟨false, v2⟩ : GInt))]) F 16 a w := hAt; refine then_n ?_; refine wp_ret ?_
    cases H
    exact ret1 rfl (rv_cell ty30 rfl) hAt
theorem ok_f_base_W (N : Nat) (x0 : Int) (r : GRat) (H : f_base_W N x0 = some r) : FnOk Try.prog 8 [fV r_i64 x0] (fV GRat.rep r) := by
  unfold f_base_W at H; refine fn_enter Try.func8 rfl rfl (by kernel_rfl) ?_; intro κ B h0 F a w hAt; refine wp_seq ?_
  refine reg [⟨Fact.triv, [(2, some (boxE 32 GRat.rep (⟨(⟨false, []⟩ : GInt), (⟨false, []⟩ : GInt)⟩ : GRat)))], [], []⟩] [0] [2] hAt
      ⟨ok_alloc ty32 rfl rfl, trivial⟩ (by kernel_rfl) ?_
  clear hAt; intro a w hAt; replace hAt : At B h0 (mkG [(0, fV r_i64 x0)]) (mkO [(2, boxE 32 GRat.rep (⟨(⟨false, []⟩ : GInt), (⟨false, []⟩ : GInt)⟩ : GRat))]) F 7 a w := hAt; refine then_n ?_; refine wp_seq ?_; obtain ⟨v1, hv1, H⟩ := bindE H; obtain ⟨v2, hv2, H⟩ := bindE H
  refine reg [⟨fV r_i64 x0, [], [(0, none)], []⟩,
      ⟨fV GInt.rep v1, [], [(3, some 0)], []⟩,
      ⟨fV GInt.rep v2, [], [], []⟩,
      ⟨fV GRat.rep (⟨v1, v2⟩ : GRat), [], [(4, some 1), (5, some 2)], []⟩,
      ⟨Fact.triv, [(2, some (boxE 32 GRat.rep (⟨v1, v2⟩ : GRat)))], [(6, some 3)], [(2, none)]⟩] [] [2] hAt
      ⟨ok_move rfl opd0,
      ok_call (ok_f_base_Z N x0 _ hv1) Try.func32 (by kernel_rfl) (by kernel_rfl) rfl ⟨opd0, trivial⟩,
      ok_call (ok_f_base_Z N 1 _ hv2) Try.func32 (by kernel_rfl) (by kernel_rfl) rfl ⟨opdI, trivial⟩,
      ok_build ty32 rfl pl32 rfl (fillC GRat.l0 rfl opd0 (fillC GRat.l1 rfl opd1 fillN)),
      ok_storeBox ty32 rfl rfl opd0, trivial⟩ (by kernel_rfl) ?_
  clear hAt; intro a w hAt; replace hAt : At B h0 (mkG []) (mkO [(2, boxE 32 GRat.rep (⟨v1, v2⟩ : GRat))]) F 7 a w := hAt; refine then_n ?_; refine wp_ret ?_
  cases H
  exact ret1 rfl (rv_cell ty32 rfl) hAt
theorem ok_f_ref02_Level (N : Nat) (x0 : GRat) (r : GAttitude) (H : f_ref02_Level N x0 = some r) : FnOk Try.prog 52 [fV GRat.rep x0] (fV GAttitude.rep r) := by
  unfold f_ref02_Level at H; refine fn_enter Try.func52 rfl rfl (by kernel_rfl) ?_; intro κ B h0 F a w hAt; refine wp_seq ?_
  refine reg [⟨fRef GRat.rep x0, [], [(0, none)], []⟩,
      ⟨Fact.triv, [(2, some (boxE 34 GAttitude.rep (⟨(⟨(⟨false, []⟩ : GInt), (⟨false, []⟩ : GInt)⟩ : GRat), (⟨(⟨false, []⟩ : GInt), (⟨false, []⟩ : GInt)⟩ : GRat)⟩ : GAttitude)))], [], []⟩] [1] [2] hAt
      ⟨ok_box rfl opd0,
      ok_alloc ty34 rfl rfl, trivial⟩ (by kernel_rfl) ?_
  clear hAt; intro a w hAt; replace hAt : At B h0 (mkG [(1, fRef GRat.rep x0)]) (mkO [(2, boxE 34 GAttitude.rep (⟨(⟨(⟨false, []⟩ : GInt), (⟨false, []⟩ : GInt)⟩ : GRat), (⟨(⟨false, []⟩ : GInt), (⟨false, []⟩ : GInt)⟩ : GRat)⟩ : GAttitude))]) F 6 a w := hAt; refine then_n ?_; refine wp_seq ?_; obtain ⟨v1, hv1, H⟩ := bindE H
  refine regd [⟨fV GRat.rep x0, [], [(1, none)], []⟩,
      ⟨fV GRat.rep v1, [], [], []⟩,
      ⟨fV GAttitude.rep (⟨x0, v1⟩ : GAttitude), [], [(3, some 0), (4, some 1)], []⟩,
      ⟨Fact.triv, [(2, some (boxE 34 GAttitude.rep (⟨x0, v1⟩ : GAttitude)))], [(5, some 2)], [(2, none)]⟩] [0, 1, 2, 3] [0, 1, 2, 3] [] [2] hAt
      ⟨ok_load ty32 rfl opd0,
      ok_call (ok_f_base_W N 0 _ hv1) Try.func8 (by kernel_rfl) (by kernel_rfl) rfl ⟨opdI, trivial⟩,
      ok_build ty34 rfl pl34 rfl (fillC GAttitude.l0 rfl opd0 (fillC GAttitude.l1 rfl opd1 fillN)),
      ok_storeBox ty34 rfl rfl opd0, trivial⟩ (by kernel_rfl) ?_
  clear hAt; intro a w hAt; replace hAt : At B h0 (mkG []) (mkO [(2, boxE 34 GAttitude.rep (⟨x0, v1⟩ : GAttitude))]) F 6 a w := hAt; refine then_n ?_; refine wp_ret ?_
  cases H
  exact ret1 rfl (rv_cell ty34 rfl) hAt
theorem ok_f_hull_isName (N : Nat) (x0 : Str) (r : Bool) (H : f_hull_isName N x0 = some r) : FnOk Try.prog 33 [fV Rep.str x0] (fV Rep.bool r) := by
  unfold f_hull_isName at H; refine fn_enter Try.func33 rfl rfl (by kernel_rfl) ?_; intro κ B h0 F a w hAt; refine wp_seq ?_
  refine reg [⟨fV Rep.bool false, [], [], []⟩] [0] [] hAt
      ⟨ok_assign rfl opdB, trivial⟩ (by kernel_rfl) ?_
  clear hAt; intro a w hAt; replace hAt : At B h0 (mkG [(0, fV Rep.str x0)]) (mkO []) F 55 a w := hAt; refine then_n ?_; refine wp_seq ?_; refine wp_seq ?_
  refine reg [⟨fV Rep.str x0, [], [(0, none)], []⟩,
      ⟨fV r_i64 (List.length x0 : Int), [], [(6, some 0)], []⟩,
      ⟨fV Rep.bool (cmpI .lss (List.length x0 : Int) 1), [], [(7, some 1)], []⟩,
      ⟨fV Rep.bool (cmpI .lss (List.length x0 : Int) 1), [], [(8, some 2)], []⟩,
      ⟨Fact.when ((!(cmpI .lss (List.length x0 : Int) 1)) = true) (fV Rep.str x0), [], [(9, some 3), (0, none)], []⟩,
      ⟨Fact.when ((!(cmpI .lss (List.length x0 : Int) 1)) = true) (fV r_i64 (List.length x0 : Int)), [], [(9, some 3), (10, some 4)], []⟩,
      ⟨Fact.when ((!(cmpI .lss (List.length x0 : Int) 1)) = true) (fV Rep.bool (cmpI .gtr (List.length x0 : Int) 12)), [], [(9, some 3), (11, some 5)], []⟩,
      ⟨fV Rep.bool ((cmpI .lss (List.length x0 : Int) 1) || (cmpI .gtr (List.length x0 : Int) 12)), [], [(9, some 3), (12, some 6)], []⟩] [0, 13] [] hAt
      ⟨ok_move rfl opd0,
      ok_lenS un9 rfl opd0,
      ok_cmp (op := .lss) (by simp) rfl rfl opd0 opdI,
      ok_move rfl opd0,
      obl_tf rfl rfl rfl rfl rfl rfl rfl (fun hg => ok_move rfl opd1),
      obl_tf rfl rfl rfl rfl rfl rfl rfl (fun hg => ok_lenS un9 rfl (opd1.on hg)),
      obl_tf rfl rfl rfl rfl rfl rfl rfl (fun hg => ok_cmp (op := .gtr) (by simp) rfl rfl (opd1.on hg) opdI),
      ok_or rfl opd0 (fun e => (opd1.on (notT e))), trivial⟩ (by kernel_rfl) ?_
  clear hAt; intro a w hAt; replace hAt : At B h0 (mkG [(0, fV Rep.str x0), (13, fV Rep.bool ((cmpI .lss (List.length x0 : Int) 1) || (cmpI .gtr (List.length x0 : Int) 12)))]) (mkO []) F 55 a w := hAt; refine then_n ?_; refine wp_if hAt (by rfl) ?_ ?_
  · intro hb10; have H := iteT hb10 H; refine wp_seq ?_
    refine reg [⟨fV Rep.bool false, [], [], []⟩] [2] [] hAt
        ⟨ok_assign rfl opdB, trivial⟩ (by kernel_rfl) ?_
    clear hAt; intro a w hAt; replace hAt : At B h0 (mkG [(2, fV Rep.bool false)]) (mkO []) F 55 a w := hAt; refine then_n ?_; refine wp_ret ?_; refine then_r ?_
    cases H
    exact ret1 rfl (rv_tmp rfl rfl) hAt
  · intro hb10; have H := iteF hb10 H; refine wp_skip ?_; refine then_n ?_; refine wp_seq ?_; refine wp_seq ?_
    refine reg [⟨fV Rep.str x0, [], [(0, none)], []⟩,
        ⟨fV (Rep.slice r_u8) (bytesI x0), [], [(14, some 0)], []⟩,
        ⟨fV r_i64 (List.length (bytesI x0) : Int), [], [(15, some 1)], []⟩,
        ⟨fV r_i64 0, [], [], []⟩] [15, 16, 17] [] hAt
        ⟨ok_move rfl opd0,
        ok_convBytes un9 un114 un5 rfl opd0,
        ok_len un114 rfl opd0,
        ok_move rfl opdI, trivial⟩ (by kernel_rfl) ?_
    clear hAt; intro a w hAt; replace hAt : At B h0 (mkG [(15, fV (Rep.slice r_u8) (bytesI x0)), (16, fV r_i64 (List.length (bytesI x0) : Int)), (17, fV r_i64 0)]) (mkO []) F 55 a w := hAt; refine then_n ?_; refine wp_block ?_; obtain ⟨o5, hl6, H⟩ := bindE H
    refine wp_mono (wp_loopN (f := f_hull_isName_L1 N x0) (fun (s1 : Int) a w => At B h0 (mkG [(15, fV (Rep.slice r_u8) (bytesI x0)), (16, fV r_i64 (List.length (bytesI x0) : Int)), (17, fV r_i64 s1)]) (mkO []) F 55 a w) (fun o e a w => (Sum.elim (fun v => e = .exit 0 ∧ At B h0 (mkG []) (mkO []) F 55 a w) (fun v => e = .ret ∧ At B h0 (mkG [(2, fV Rep.bool v)]) (mkO []) F 55 a w)) o) ?_ N 0 o5 _ _ hl6 ?_) ?_
    · clear H hAt hl6; intro s1 r9 a w H hAt; unfold f_hull_isName_L1 at H; refine wp_seq ?_
      refine reg [⟨fV Rep.bool (cmpI .lss s1 (List.length (bytesI x0) : Int)), [], [(17, none), (16, none)], []⟩] [15, 16, 17, 18] [] hAt
          ⟨ok_cmp (op := .lss) (by simp) rfl rfl opd0 opd1, trivial⟩ (by kernel_rfl) ?_
      clear hAt; intro a w hAt; replace hAt : At B h0 (mkG [(15, fV (Rep.slice r_u8) (bytesI x0)), (16, fV r_i64 (List.length (bytesI x0) : Int)), (17, fV r_i64 s1), (18, fV Rep.bool (cmpI .lss s1 (List.length (bytesI x0) : Int)))]) (mkO []) F 55 a w := hAt; refine then_n ?_; refine wp_seq ?_; refine wp_if hAt (by rfl) ?_ ?_
      · intro hb4; have H := iteT hb4 H; refine wp_skip ?_; refine then_n ?_; refine wp_seq ?_; refine wp_block ?_; refine wp_seq ?_; obtain ⟨v2, hv2, H⟩ := bindE H
        refine reg [⟨fV r_i64 s1, [], [(17, none)], []⟩,
            ⟨fRef r_u8 v2, [], [(15, none), (17, none)], []⟩,
            ⟨fV r_u8 v2, [], [(20, some 1)], []⟩,
            ⟨fV r_i64 s1, [], [(19, some 0)], []⟩,
            ⟨fV r_u8 v2, [], [(21, some 2)], []⟩] [3, 4, 15, 16, 17] [] hAt
            ⟨ok_move rfl opd0,
            ok_index ty5 un114 hv2 rfl opd0 opd1,
            ok_load ty5 rfl opd0,
            ok_assign rfl opd0,
            ok_assign rfl opd0, trivial⟩ (by kernel_rfl) ?_
        clear hAt; intro a w hAt; replace hAt : At B h0 (mkG [(3, fV r_i64 s1), (4, fV r_u8 v2), (15, fV (Rep.slice r_u8) (bytesI x0)), (16, fV r_i64 (List.length (bytesI x0) : Int)), (17, fV r_i64 s1)]) (mkO []) F 55 a w := hAt; refine then_n ?_; refine wp_seq ?_
        refine reg [⟨fV r_u8 v2, [], [(4, none)], []⟩,
            ⟨fV Rep.bool (cmpI .geq v2 97), [], [(22, some 0)], []⟩,
            ⟨fV Rep.bool (cmpI .geq v2 97), [], [(23, some 1)], []⟩,
            ⟨Fact.when ((cmpI .geq v2 97) = true) (fV r_u8 v2), [], [(24, some 2), (4, none)], []⟩,
            ⟨Fact.when ((cmpI .geq v2 97) = true) (fV Rep.bool (cmpI .leq v2 122)), [], [(24, some 2), (25, some 3)], []⟩,
            ⟨fV Rep.bool ((cmpI .geq v2 97) && (cmpI .leq v2 122)), [], [(24, some 2), (26, some 4)], []⟩,
            ⟨fV Rep.bool ((cmpI .geq v2 97) && (cmpI .leq v2 122)), [], [(27, some 5)], []⟩,
            ⟨Fact.when ((!((cmpI .geq v2 97) && (cmpI .leq v2 122))) = true) (fV r_u8 v2), [], [(28, some 6), (4, none)], []⟩,
            ⟨Fact.when ((!((cmpI .geq v2 97) && (cmpI .leq v2 122))) = true) (fV Rep.bool (cmpI .geq v2 65)), [], [(28, some 6), (29, some 7)], []⟩,
            ⟨Fact.when ((!((cmpI .geq v2 97) && (cmpI .leq v2 122))) = true) (fV Rep.bool (cmpI .geq v2 65)), [], [(28, some 6), (30, some 8)], []⟩,
            ⟨Fact.when (((!((cmpI .geq v2 97) && (cmpI .leq v2 122))) && (cmpI .geq v2 65)) = true) (fV r_u8 v2), [], [(31, some 9), (4, none)], []⟩,
            ⟨Fact.when (((!((cmpI .geq v2 97) && (cmpI .leq v2 122))) && (cmpI .geq v2 65)) = true) (fV Rep.bool (cmpI .leq v2 90)), [], [(31, some 9), (32, some 10)], []⟩,
            ⟨Fact.when ((!((cmpI .geq v2 97) && (cmpI .leq v2 122))) = true) (fV Rep.bool ((cmpI .geq v2 65) && (cmpI .leq v2 90))), [], [(28, some 6), (31, some 9), (33, some 11)], []⟩,
            ⟨fV Rep.bool (((cmpI .geq v2 97) && (cmpI .leq v2 122)) || ((cmpI .geq v2 65) && (cmpI .leq v2 90))), [], [(28, some 6), (34, some 12)], []⟩,
            ⟨fV Rep.bool (((cmpI .geq v2 97) && (cmpI .leq v2 122)) || ((cmpI .geq v2 65) && (cmpI .leq v2 90))), [], [(35, some 13)], []⟩] [3, 4, 5, 15, 16, 17] [] hAt
            ⟨ok_move rfl opd0,
            ok_cmp (op := .geq) (by simp) rfl rfl opd0 opdI,
            ok_move rfl opd0,
            obl_tt rfl rfl rfl rfl rfl rfl rfl (fun hg => ok_move rfl opd1),
            obl_tt rfl rfl rfl rfl rfl rfl rfl (fun hg => ok_cmp (op := .leq) (by simp) rfl rfl (opd1.on hg) opdI),
            ok_and rfl opd0 (fun e => (opd1.on e)),
            ok_move rfl opd0,
            obl_tf rfl rfl rfl rfl rfl rfl rfl (fun hg => ok_move rfl opd1),
            obl_tf rfl rfl rfl rfl rfl rfl rfl (fun hg => ok_cmp (op := .geq) (by simp) rfl rfl (opd1.on hg) opdI),
            obl_tf rfl rfl rfl rfl rfl rfl rfl (fun hg => ok_move rfl (opd1.on hg)),
            obl_wt rfl rfl rfl rfl rfl rfl rfl (fun hg => ok_move rfl opd1),
            obl_wt rfl rfl rfl rfl rfl rfl rfl (fun hg => ok_cmp (op := .leq) (by simp) rfl rfl (opd1.on hg) opdI),
            obl_tf rfl rfl rfl rfl rfl rfl rfl (fun hg => ok_and rfl (opd1.on hg) (fun e => (opd2.on (andT hg e)))),
            ok_or rfl opd0 (fun e => (opd1.on (notT e))),
            ok_assign rfl opd0, trivial⟩ (by kernel_rfl) ?_
        clear hAt; intro a w hAt; replace hAt : At B h0 (mkG [(3, fV r_i64 s1), (4, fV r_u8 v2), (5, fV Rep.bool (((cmpI .geq v2 97) && (cmpI .leq v2 122)) || ((cmpI .geq v2 65) && (cmpI .leq v2 90)))), (15, fV (Rep.slice r_u8) (bytesI x0)), (16, fV r_i64 (List.length (bytesI x0) : Int)), (17, fV r_i64 s1)]) (mkO []) F 55 a w := hAt; refine then_n ?_; refine wp_seq ?_
        refine reg [⟨fV Rep.bool (((cmpI .geq v2 97) && (cmpI .leq v2 122)) || ((cmpI .geq v2 65) && (cmpI .leq v2 90))), [], [(5, none)], []⟩,
            ⟨fV Rep.bool (!(((cmpI .geq v2 97) && (cmpI .leq v2 122)) || ((cmpI .geq v2 65) && (cmpI .leq v2 90)))), [], [(36, some 0)], []⟩,
            ⟨fV Rep.bool (!(((cmpI .geq v2 97) && (cmpI .leq v2 122)) || ((cmpI .geq v2 65) && (cmpI .leq v2 90)))), [], [(37, some 1)], []⟩,
            ⟨Fact.when ((!(((cmpI .geq v2 97) && (cmpI .leq v2 122)) || ((cmpI .geq v2 65) && (cmpI .leq v2 90)))) = true) (fV r_i64 s1), [], [(38, some 2), (3, none)], []⟩,
            ⟨Fact.when ((!(((cmpI .geq v2 97) && (cmpI .leq v2 122)) || ((cmpI .geq v2 65) && (cmpI .leq v2 90)))) = true) (fV Rep.bool (cmpI .eql s1 0)), [], [(38, some 2), (39, some 3)], []⟩,
            ⟨Fact.when ((!(((cmpI .geq v2 97) && (cmpI .leq v2 122)) || ((cmpI .geq v2 65) && (cmpI .leq v2 90)))) = true) (fV Rep.bool (cmpI .eql s1 0)), [], [(38, some 2), (40, some 4)], []⟩,
            ⟨Fact.when (((!(((cmpI .geq v2 97) && (cmpI .leq v2 122)) || ((cmpI .geq v2 65) && (cmpI .leq v2 90)))) && (!(cmpI .eql s1 0))) = true) (fV r_u8 v2), [], [(41, some 5), (4, none)], []⟩,
            ⟨Fact.when (((!(((cmpI .geq v2 97) && (cmpI .leq v2 122)) || ((cmpI .geq v2 65) && (cmpI .leq v2 90)))) && (!(cmpI .eql s1 0))) = true) (fV Rep.bool (cmpI .neq v2 45)), [], [(41, some 5), (42, some 6)], []⟩,
            ⟨Fact.when (((!(((cmpI .geq v2 97) && (cmpI .leq v2 122)) || ((cmpI .geq v2 65) && (cmpI .leq v2 90)))) && (!(cmpI .eql s1 0))) = true) (fV Rep.bool (cmpI .neq v2 45)), [], [(41, some 5), (43, some 7)], []⟩,
            ⟨Fact.when ((((!(((cmpI .geq v2 97) && (cmpI .leq v2 122)) || ((cmpI .geq v2 65) && (cmpI .leq v2 90)))) && (!(cmpI .eql s1 0))) && (cmpI .neq v2 45)) = true) (fV r_u8 v2), [], [(44, some 8), (4, none)], []⟩,
            ⟨Fact.when ((((!(((cmpI .geq v2 97) && (cmpI .leq v2 122)) || ((cmpI .geq v2 65) && (cmpI .leq v2 90)))) && (!(cmpI .eql s1 0))) && (cmpI .neq v2 45)) = true) (fV Rep.bool (cmpI .lss v2 48)), [], [(44, some 8), (45, some 9)], []⟩,
            ⟨Fact.when ((((!(((cmpI .geq v2 97) && (cmpI .leq v2 122)) || ((cmpI .geq v2 65) && (cmpI .leq v2 90)))) && (!(cmpI .eql s1 0))) && (cmpI .neq v2 45)) = true) (fV Rep.bool (cmpI .lss v2 48)), [], [(44, some 8), (46, some 10)], []⟩,
            ⟨Fact.when (((((!(((cmpI .geq v2 97) && (cmpI .leq v2 122)) || ((cmpI .geq v2 65) && (cmpI .leq v2 90)))) && (!(cmpI .eql s1 0))) && (cmpI .neq v2 45)) && (!(cmpI .lss v2 48))) = true) (fV r_u8 v2), [], [(47, some 11), (4, none)], []⟩,
            ⟨Fact.when (((((!(((cmpI .geq v2 97) && (cmpI .leq v2 122)) || ((cmpI .geq v2 65) && (cmpI .leq v2 90)))) && (!(cmpI .eql s1 0))) && (cmpI .neq v2 45)) && (!(cmpI .lss v2 48))) = true) (fV Rep.bool (cmpI .gtr v2 57)), [], [(47, some 11), (48, some 12)], []⟩,
            ⟨Fact.when ((((!(((cmpI .geq v2 97) && (cmpI .leq v2 122)) || ((cmpI .geq v2 65) && (cmpI .leq v2 90)))) && (!(cmpI .eql s1 0))) && (cmpI .neq v2 45)) = true) (fV Rep.bool ((cmpI .lss v2 48) || (cmpI .gtr v2 57))), [], [(44, some 8), (47, some 11), (49, some 13)], []⟩,
            ⟨Fact.when (((!(((cmpI .geq v2 97) && (cmpI .leq v2 122)) || ((cmpI .geq v2 65) && (cmpI .leq v2 90)))) && (!(cmpI .eql s1 0))) = true) (fV Rep.bool ((cmpI .neq v2 45) && ((cmpI .lss v2 48) || (cmpI .gtr v2 57)))), [], [(41, some 5), (44, some 8), (50, some 14)], []⟩,
            ⟨Fact.when ((!(((cmpI .geq v2 97) && (cmpI .leq v2 122)) || ((cmpI .geq v2 65) && (cmpI .leq v2 90)))) = true) (fV Rep.bool ((cmpI .eql s1 0) || ((cmpI .neq v2 45) && ((cmpI .lss v2 48) || (cmpI .gtr v2 57))))), [], [(38, some 2), (41, some 5), (51, some 15)], []⟩,
            ⟨fV Rep.bool ((!(((cmpI .geq v2 97) && (cmpI .leq v2 122)) || ((cmpI .geq v2 65) && (cmpI .leq v2 90)))) && ((cmpI .eql s1 0) || ((cmpI .neq v2 45) && ((cmpI .lss v2 48) || (cmpI .gtr v2 57))))), [], [(38, some 2), (52, some 16)], []⟩] [15, 16, 17, 53] [] hAt
            ⟨ok_move rfl opd0,
            ok_not rfl opd0,
            ok_move rfl opd0,
            obl_tt rfl rfl rfl rfl rfl rfl rfl (fun hg => ok_move rfl opd1),
            obl_tt rfl rfl rfl rfl rfl rfl rfl (fun hg => ok_cmp (op := .eql) (by simp) rfl rfl (opd1.on hg) opdI),
            obl_tt rfl rfl rfl rfl rfl rfl rfl (fun hg => ok_move rfl (opd1.on hg)),
            obl_wf rfl rfl rfl rfl rfl rfl rfl (fun hg => ok_move rfl opd1),
            obl_wf rfl rfl rfl rfl rfl rfl rfl (fun hg => ok_cmp (op := .neq) (by simp) rfl rfl (opd1.on hg) opdI),
            obl_wf rfl rfl rfl rfl rfl rfl rfl (fun hg => ok_move rfl (opd1.on hg)),
            obl_wt rfl rfl rfl rfl rfl rfl rfl (fun hg => ok_move rfl opd1),
            obl_wt rfl rfl rfl rfl rfl rfl rfl (fun hg => ok_cmp (op := .lss) (by simp) rfl rfl (opd1.on hg) opdI),
            obl_wt rfl rfl rfl rfl rfl rfl rfl (fun hg => ok_move rfl (opd1.on hg)),
            obl_wf rfl rfl rfl rfl rfl rfl rfl (fun hg => ok_move rfl opd1),
            obl_wf rfl rfl rfl rfl rfl rfl rfl (fun hg => ok_cmp (op := .gtr) (by simp) rfl rfl (opd1.on hg) opdI),
            obl_wt rfl rfl rfl rfl rfl rfl rfl (fun hg => ok_or rfl (opd1.on hg) (fun e => (opd2.on (andT hg (notT e))))),
            obl_wf rfl rfl rfl rfl rfl rfl rfl (fun hg => ok_and rfl (opd1.on hg) (fun e => (opd2.on (andT hg e)))),
            obl_tt rfl rfl rfl rfl rfl rfl rfl (fun hg => ok_or rfl (opd1.on hg) (fun e => (opd2.on (andT hg (notT e))))),
            ok_and rfl opd0 (fun e => (opd1.on e)), trivial⟩ (by kernel_rfl) ?_
        clear hAt; intro a w hAt; replace hAt : At B h0 (mkG [(15, fV (Rep.slice r_u8) (bytesI x0)), (16, fV r_i64 (List.length (bytesI x0) : Int)), (17, fV r_i64 s1), (53, fV Rep.bool ((!(((cmpI .geq v2 97) && (cmpI .leq v2 122)) || ((cmpI .geq v2 65) && (cmpI .leq v2 90)))) && ((cmpI .eql s1 0) || ((cmpI .neq v2 45) && ((cmpI .lss v2 48) || (cmpI .gtr v2 57))))))]) (mkO []) F 55 a w := hAt
        refine then_n ?_; refine wp_if hAt (by rfl) ?_ ?_
        · intro hb3; have H := iteT hb3 H; refine wp_seq ?_
          refine reg [⟨fV Rep.bool false, [], [], []⟩] [2] [] hAt
              ⟨ok_assign rfl opdB, trivial⟩ (by kernel_rfl) ?_
          clear hAt; intro a w hAt; replace hAt : At B h0 (mkG [(2, fV Rep.bool false)]) (mkO []) F 55 a w := hAt; refine then_n ?_; refine wp_ret ?_; refine blk_r ?_; refine then_r ?_
          cases H
          exact ⟨ret_ne, rfl, hAt.pick [2] []⟩
        · intro hb3; have H := iteF hb3 H; refine wp_skip ?_; refine blk_n ?_; refine then_n ?_
          refine reg [⟨fV r_i64 (IntKind.i64.wrap (s1 + 1)), [], [(17, none)], []⟩,
              ⟨fV r_i64 (IntKind.i64.wrap (s1 + 1)), [], [(54, some 0)], []⟩] [15, 16, 17] [] hAt
              ⟨ok_add rfl opd0 opdI,
              ok_move rfl opd0, trivial⟩ (by kernel_rfl) ?_
          clear hAt; intro a w hAt; replace hAt : At B h0 (mkG [(15, fV (Rep.slice r_u8) (bytesI x0)), (16, fV r_i64 (List.length (bytesI x0) : Int)), (17, fV r_i64 (IntKind.i64.wrap (s1 + 1)))]) (mkO []) F 55 a w := hAt
          cases H
          exact ⟨rfl, hAt.pick [15, 16, 17] []⟩
      · intro hb4; have H := iteF hb4 H; refine wp_exit ?_; refine then_x ?_
        cases H
        exact ⟨ex_ne, rfl, hAt.pick [] []⟩
    · exact hAt.pick [15, 16, 17] []
    · clear hAt; intro e a w hp
      cases o5 with
      | inl l7 =>
        rw [Sum.elim_inl] at H; obtain ⟨rfl, hAt⟩ := hp; refine blk_eq ?_; refine then_n ?_; refine wp_seq ?_
        refine reg [⟨fV Rep.bool true, [], [], []⟩] [2] [] hAt
            ⟨ok_assign rfl opdB, trivial⟩ (by kernel_rfl) ?_
        clear hAt; intro a w hAt; replace hAt : At B h0 (mkG [(2, fV Rep.bool true)]) (mkO []) F 55 a w := hAt; refine then_n ?_; refine wp_ret ?_
        cases H
        exact ret1 rfl (rv_tmp rfl rfl) hAt
      | inr r8 =>
        rw [Sum.elim_inr] at H; replace hp := hp; obtain ⟨rfl, hAt⟩ := hp; refine blk_r ?_; refine then_r ?_
        cases H
        exact ret1 rfl (rv_tmp rfl rfl) hAt
theorem ok_f_hull_between (N : Nat) (x0 : Int) (x1 : Int) (x2 : Int) (r : Bool) (H : f_hull_between N x0 x1 x2 = some r) : FnOk Try.prog 34 [fV r_i64 x0, fV r_i64 x1, fV r_i64 x2] (fV Rep.bool r) := by
  unfold f_hull_between at H; refine fn_enter Try.func34 rfl rfl (by kernel_rfl) ?_; intro κ B h0 F a w hAt; refine wp_seq ?_
  refine reg [⟨fV Rep.bool false, [], [], []⟩] [0, 1, 2] [] hAt
      ⟨ok_assign rfl opdB, trivial⟩ (by kernel_rfl) ?_
  clear hAt; intro a w hAt; replace hAt : At B h0 (mkG [(0, fV r_i64 x0), (1, fV r_i64 x1), (2, fV r_i64 x2)]) (mkO []) F 15 a w := hAt; refine then_n ?_; refine wp_seq ?_
  refine reg [⟨fV r_i64 x0, [], [(0, none)], []⟩,
      ⟨fV r_i64 x1, [], [(1, none)], []⟩,
      ⟨fV Rep.bool (cmpI .geq x0 x1), [], [(7, some 0), (8, some 1)], []⟩,
      ⟨fV Rep.bool (cmpI .geq x0 x1), [], [(9, some 2)], []⟩,
      ⟨Fact.when ((cmpI .geq x0 x1) = true) (fV r_i64 x0), [], [(10, some 3), (0, none)], []⟩,
      ⟨Fact.when ((cmpI .geq x0 x1) = true) (fV r_i64 x2), [], [(10, some 3), (2, none)], []⟩,
      ⟨Fact.when ((cmpI .geq x0 x1) = true) (fV Rep.bool (cmpI .leq x0 x2)), [], [(10, some 3), (11, some 4), (12, some 5)], []⟩,
      ⟨fV Rep.bool ((cmpI .geq x0 x1) && (cmpI .leq x0 x2)), [], [(10, some 3), (13, some 6)], []⟩,
      ⟨fV Rep.bool ((cmpI .geq x0 x1) && (cmpI .leq x0 x2)), [], [(14, some 7)], []⟩] [6] [] hAt
      ⟨ok_move rfl opd0,
      ok_move rfl opd0,
      ok_cmp (op := .geq) (by simp) rfl rfl opd0 opd1,
      ok_move rfl opd0,
      obl_tt rfl rfl rfl rfl rfl rfl rfl (fun hg => ok_move rfl opd1),
      obl_tt rfl rfl rfl rfl rfl rfl rfl (fun hg => ok_move rfl opd1),
      obl_tt rfl rfl rfl rfl rfl rfl rfl (fun hg => ok_cmp (op := .leq) (by simp) rfl rfl (opd1.on hg) (opd2.on hg)),
      ok_and rfl opd0 (fun e => (opd1.on e)),
      ok_assign rfl opd0, trivial⟩ (by kernel_rfl) ?_
  clear hAt; intro a w hAt; replace hAt : At B h0 (mkG [(6, fV Rep.bool ((cmpI .geq x0 x1) && (cmpI .leq x0 x2)))]) (mkO []) F 15 a w := hAt; refine then_n ?_; refine wp_ret ?_
  cases H
  exact ret1 rfl (rv_tmp rfl rfl) hAt
theorem ok_f_hull_checkStation (N : Nat) (x0 : GStation) (x1 : (Option GStation)) (r : Int) (H : f_hull_checkStation N x0 x1 = some r) : FnOk Try.prog 35 [fV GStation.rep x0, fV (Rep.ptr GStation.rep) x1] (fV r_i64 r) := by
  unfold f_hull_checkStation at H; refine fn_enter Try.func35 rfl rfl (by kernel_rfl) ?_; intro κ B h0 F a w hAt; refine wp_seq ?_
  refine reg [⟨fRef GStation.rep x0, [], [(0, none)], []⟩,
      ⟨fV r_i64 0, [], [], []⟩] [1, 2] [] hAt
      ⟨ok_box rfl opd0,
      ok_assign rfl opdI, trivial⟩ (by kernel_rfl) ?_
  clear hAt; intro a w hAt; replace hAt : At B h0 (mkG [(1, fV (Rep.ptr GStation.rep) x1), (2, fRef GStation.rep x0)]) (mkO []) F 93 a w := hAt; refine then_n ?_; refine wp_seq ?_; refine wp_seq ?_; obtain ⟨v1, hv1, H⟩ := bindE H; obtain ⟨v2, hv2, H⟩ := bindE H
  refine reg [⟨fRef r_i64 x0.X, [], [(2, none)], []⟩,
      ⟨fV r_i64 x0.X, [], [(10, some 0)], []⟩,
      ⟨fV Rep.bool v1, [], [(11, some 1)], []⟩,
      ⟨fV Rep.bool (!v1), [], [(12, some 2)], []⟩,
      ⟨fV Rep.bool (!v1), [], [(13, some 3)], []⟩,
      ⟨Fact.when ((!(!v1)) = true) (fRef r_i64 x0.Width), [], [(14, some 4), (2, none)], []⟩,
      ⟨Fact.when ((!(!v1)) = true) (fV r_i64 x0.Width), [], [(14, some 4), (15, some 5)], []⟩,
      ⟨Fact.when ((!(!v1)) = true) (fV Rep.bool v2), [], [(14, some 4), (16, some 6)], []⟩,
      ⟨Fact.when ((!(!v1)) = true) (fV Rep.bool (!v2)), [], [(14, some 4), (17, some 7)], []⟩,
      ⟨fV Rep.bool ((!v1) || (!v2)), [], [(14, some 4), (18, some 8)], []⟩] [1, 2, 19] [] hAt
      ⟨ok_field GStation.l0 fo71_0 rfl opd0,
      ok_load ty3 rfl opd0,
      ok_call (ok_f_hull_between N x0.X (-1000000) 1000000 _ hv1) Try.func34 (by kernel_rfl) (by kernel_rfl) rfl ⟨opd0, ⟨opdI, ⟨opdI, trivial⟩⟩⟩,
      ok_not rfl opd0,
      ok_move rfl opd0,
      obl_tf rfl rfl rfl rfl rfl rfl rfl (fun hg => ok_field GStation.l1 fo71_1 rfl opd1),
      obl_tf rfl rfl rfl rfl rfl rfl rfl (fun hg => ok_load ty3 rfl (opd1.on hg)),
      obl_tf rfl rfl rfl rfl rfl rfl rfl (fun hg => ok_call (ok_f_hull_between N x0.Width 1 100000 _ (iteT hg hv2)) Try.func34 (by kernel_rfl) (by kernel_rfl) rfl ⟨(opd1.on hg), ⟨opdI, ⟨opdI, trivial⟩⟩⟩),
      obl_tf rfl rfl rfl rfl rfl rfl rfl (fun hg => ok_not rfl (opd1.on hg)),
      ok_or rfl opd0 (fun e => (opd1.on (notT e))), trivial⟩ (by kernel_rfl) ?_
  clear hAt; intro a w hAt; replace hAt : At B h0 (mkG [(1, fV (Rep.ptr GStation.rep) x1), (2, fRef GStation.rep x0), (19, fV Rep.bool ((!v1) || (!v2)))]) (mkO []) F 93 a w := hAt; refine then_n ?_; refine wp_if hAt (by rfl) ?_ ?_
  · intro hb36; have H := iteT hb36 H; refine wp_seq ?_
    refine reg [⟨fV r_i64 2, [], [], []⟩] [4] [] hAt
        ⟨ok_assign rfl opdI, trivial⟩ (by kernel_rfl) ?_
    clear hAt; intro a w hAt; replace hAt : At B h0 (mkG [(4, fV r_i64 2)]) (mkO []) F 93 a w := hAt; refine then_n ?_; refine wp_ret ?_; refine then_r ?_
    cases H
    exact ret1 rfl (rv_tmp rfl rfl) hAt
  · intro hb36; have H := iteF hb36 H; refine wp_skip ?_; refine then_n ?_; refine wp_seq ?_; obtain ⟨o8, hl9, H⟩ := bindE H; refine wp_mono (Q := (fun o e a w => (Sum.elim (fun v => e = .normal ∧ At B h0 (mkG [(2, fRef GStation.rep x0)]) (mkO []) F 93 a w) (fun v => e = .ret ∧ At B h0 (mkG [(4, fV r_i64 v)]) (mkO []) F 93 a w)) o) o8) ?_ ?_
    · clear H; have H := hl9; clear hl9; refine wp_seq ?_
      refine reg [⟨fV (Rep.ptr GStation.rep) x1, [], [(1, none)], []⟩,
          ⟨fV Rep.bool (Option.isSome x1), [], [(20, some 0)], []⟩] [1, 2, 21] [] hAt
          ⟨ok_move rfl opd0,
          ok_neP un85 rfl opd0, trivial⟩ (by kernel_rfl) ?_
      clear hAt; intro a w hAt; replace hAt : At B h0 (mkG [(1, fV (Rep.ptr GStation.rep) x1), (2, fRef GStation.rep x0), (21, fV Rep.bool (Option.isSome x1))]) (mkO []) F 93 a w := hAt; refine then_n ?_; refine wp_if hAt (by rfl) ?_ ?_
      · intro hb7; have H := iteT hb7 H; refine wp_seq ?_; obtain ⟨v3, hv3, H⟩ := bindE H
        refine regd [⟨fRef r_i64 x0.X, [], [(2, none)], []⟩,
            ⟨fV r_i64 x0.X, [], [(22, some 0)], []⟩,
            ⟨fV (Rep.ptr GStation.rep) x1, [], [(1, none)], []⟩,
            ⟨fRef GStation.rep v3, [], [(24, some 2)], []⟩,
            ⟨fRef r_i64 v3.X, [], [(25, some 3)], []⟩,
            ⟨fV r_i64 v3.X, [], [(26, some 4)], []⟩,
            ⟨fV r_i64 (IntKind.i64.wrap (x0.X - v3.X)), [], [(23, some 1), (27, some 5)], []⟩,
            ⟨fV r_i64 (IntKind.i64.wrap (x0.X - v3.X)), [], [(28, some 6)], []⟩] [0, 1, 2, 3, 4, 5, 6, 7] [0, 1, 2, 3, 4, 5, 6, 7] [1, 2, 5] [] hAt
            ⟨ok_field GStation.l0 fo71_0 rfl opd0,
            ok_load ty3 rfl opd0,
            ok_move rfl opd0,
            ok_nilCheck rfl (opdPg hv3 opd0),
            ok_field GStation.l0 fo71_0 rfl opd0,
            ok_load ty3 rfl opd0,
            ok_sub rfl opd0 opd1,
            ok_assign rfl opd0, trivial⟩ (by kernel_rfl) ?_
        clear hAt; intro a w hAt; replace hAt : At B h0 (mkG [(1, fV (Rep.ptr GStation.rep) x1), (2, fRef GStation.rep x0), (5, fV r_i64 (IntKind.i64.wrap (x0.X - v3.X)))]) (mkO []) F 93 a w := hAt; refine then_n ?_; refine wp_block ?_; refine wp_seq ?_
        refine reg [⟨fV r_i64 (IntKind.i64.wrap (x0.X - v3.X)), [], [(5, none)], []⟩,
            ⟨fV Rep.bool (cmpI .leq (IntKind.i64.wrap (x0.X - v3.X)) 0), [], [(30, some 0)], []⟩,
            ⟨fV Rep.bool (cmpI .leq (IntKind.i64.wrap (x0.X - v3.X)) 0), [], [(31, some 1)], []⟩] [1, 2, 5, 29] [] hAt
            ⟨ok_move rfl opd0,
            ok_cmp (op := .leq) (by simp) rfl rfl opd0 opdI,
            ok_assign rfl opd0, trivial⟩ (by kernel_rfl) ?_
        clear hAt; intro a w hAt; replace hAt : At B h0 (mkG [(1, fV (Rep.ptr GStation.rep) x1), (2, fRef GStation.rep x0), (5, fV r_i64 (IntKind.i64.wrap (x0.X - v3.X))), (29, fV Rep.bool (cmpI .leq (IntKind.i64.wrap (x0.X - v3.X)) 0))]) (mkO []) F 93 a w := hAt; refine then_n ?_; refine wp_if hAt (by rfl) ?_ ?_
        · intro hb6; have H := iteT hb6 H; refine wp_seq ?_
          refine reg [⟨fV r_i64 10, [], [], []⟩] [4] [] hAt
              ⟨ok_assign rfl opdI, trivial⟩ (by kernel_rfl) ?_
          clear hAt; intro a w hAt; replace hAt : At B h0 (mkG [(4, fV r_i64 10)]) (mkO []) F 93 a w := hAt; refine then_n ?_; refine wp_ret ?_; refine blk_r ?_
          cases H
          exact ⟨rfl, hAt.pick [4] []⟩
        · intro hb6; have H := iteF hb6 H; refine wp_seq ?_; obtain ⟨v4, hv4, H⟩ := bindE H
          refine regd [⟨fV r_i64 (IntKind.i64.wrap (x0.X - v3.X)), [], [(5, none)], []⟩,
              ⟨fV r_i64 (IntKind.i64.wrap (2 * (IntKind.i64.wrap (x0.X - v3.X)))), [], [(33, some 0)], []⟩,
              ⟨fRef r_i64 x0.Width, [], [(2, none)], []⟩,
              ⟨fV r_i64 x0.Width, [], [(35, some 2)], []⟩,
              ⟨fV (Rep.ptr GStation.rep) x1, [], [(1, none)], []⟩,
              ⟨fRef GStation.rep v4, [], [(37, some 4)], []⟩,
              ⟨fRef r_i64 v4.Width, [], [(38, some 5)], []⟩,
              ⟨fV r_i64 v4.Width, [], [(39, some 6)], []⟩,
              ⟨fV r_i64 (IntKind.i64.wrap (x0.Width + v4.Width)), [], [(36, some 3), (40, some 7)], []⟩,
              ⟨fV Rep.bool (cmpI .lss (IntKind.i64.wrap (2 * (IntKind.i64.wrap (x0.X - v3.X)))) (IntKind.i64.wrap (x0.Width + v4.Width))), [], [(34, some 1), (41, some 8)], []⟩,
              ⟨fV Rep.bool (cmpI .lss (IntKind.i64.wrap (2 * (IntKind.i64.wrap (x0.X - v3.X)))) (IntKind.i64.wrap (x0.Width + v4.Width))), [], [(42, some 9)], []⟩] [0, 1, 2, 3, 4, 5, 6, 7, 8, 9, 10] [0, 1, 2, 3, 4, 5, 6, 7, 8, 9, 10] [2, 32] [] hAt
              ⟨ok_move rfl opd0,
              ok_mul rfl opdI opd0,
              ok_field GStation.l1 fo71_1 rfl opd0,
              ok_load ty3 rfl opd0,
              ok_move rfl opd0,
              ok_nilCheck rfl (opdPg hv4 opd0),
              ok_field GStation.l1 fo71_1 rfl opd0,
              ok_load ty3 rfl opd0,
              ok_add rfl opd0 opd1,
              ok_cmp (op := .lss) (by simp) rfl rfl opd0 opd1,
              ok_assign rfl opd0, trivial⟩ (by kernel_rfl) ?_
          clear hAt; intro a w hAt; replace hAt : At B h0 (mkG [(2, fRef GStation.rep x0), (32, fV Rep.bool (cmpI .lss (IntKind.i64.wrap (2 * (IntKind.i64.wrap (x0.X - v3.X)))) (IntKind.i64.wrap (x0.Width + v4.Width))))]) (mkO []) F 93 a w := hAt; refine then_n ?_; refine wp_if hAt (by rfl) ?_ ?_
          · intro hb5; have H := iteT hb5 H; refine wp_seq ?_
            refine reg [⟨fV r_i64 17, [], [], []⟩] [4] [] hAt
                ⟨ok_assign rfl opdI, trivial⟩ (by kernel_rfl) ?_
            clear hAt; intro a w hAt; replace hAt : At B h0 (mkG [(4, fV r_i64 17)]) (mkO []) F 93 a w := hAt; refine then_n ?_; refine wp_ret ?_; refine blk_r ?_
            cases H
            exact ⟨rfl, hAt.pick [4] []⟩
          · intro hb5; have H := iteF hb5 H; refine wp_skip ?_; refine blk_n ?_
            cases H
            exact ⟨rfl, hAt.pick [2] []⟩
      · intro hb7; have H := iteF hb7 H; refine wp_skip ?_
        cases H
        exact ⟨rfl, hAt.pick [2] []⟩
    · clear hAt; intro e a w hp
      cases o8 with
      | inl l10 =>
        rw [Sum.elim_inl] at H; obtain ⟨rfl, hAt⟩ := hp; refine then_n ?_; refine wp_seq ?_; refine wp_seq ?_; obtain ⟨v12, hv12, H⟩ := bindE H
        refine reg [⟨fRef (Rep.slice r_i64) x0.Levels, [], [(2, none)], []⟩,
            ⟨fV (Rep.slice r_i64) x0.Levels, [], [(43, some 0)], []⟩,
            ⟨fV r_i64 (List.length x0.Levels : Int), [], [(44, some 1)], []⟩,
            ⟨fV Rep.bool v12, [], [(45, some 2)], []⟩,
            ⟨fV Rep.bool (!v12), [], [(46, some 3)], []⟩,
            ⟨fV Rep.bool (!v12), [], [(47, some 4)], []⟩,
            ⟨Fact.when ((!(!v12)) = true) (fRef (Rep.slice r_i64) x0.Halves), [], [(48, some 5), (2, none)], []⟩,
            ⟨Fact.when ((!(!v12)) = true) (fV (Rep.slice r_i64) x0.Halves), [], [(48, some 5), (49, some 6)], []⟩,
            ⟨Fact.when ((!(!v12)) = true) (fV r_i64 (List.length x0.Halves : Int)), [], [(48, some 5), (50, some 7)], []⟩,
            ⟨Fact.when ((!(!v12)) = true) (fRef (Rep.slice r_i64) x0.Levels), [], [(48, some 5), (2, none)], []⟩,
            ⟨Fact.when ((!(!v12)) = true) (fV (Rep.slice r_i64) x0.Levels), [], [(48, some 5), (52, some 9)], []⟩,
            ⟨Fact.when ((!(!v12)) = true) (fV r_i64 (List.length x0.Levels : Int)), [], [(48, some 5), (53, some 10)], []⟩,
            ⟨Fact.when ((!(!v12)) = true) (fV r_i64 (IntKind.i64.wrap ((List.length x0.Levels : Int) - 1))), [], [(48, some 5), (54, some 11)], []⟩,
            ⟨Fact.when ((!(!v12)) = true) (fV Rep.bool (cmpI .neq (List.length x0.Halves : Int) (IntKind.i64.wrap ((List.length x0.Levels : Int) - 1)))), [], [(48, some 5), (51, some 8), (55, some 12)], []⟩,
            ⟨fV Rep.bool ((!v12) || (cmpI .neq (List.length x0.Halves : Int) (IntKind.i64.wrap ((List.length x0.Levels : Int) - 1)))), [], [(48, some 5), (56, some 13)], []⟩] [2, 57] [] hAt
            ⟨ok_field GStation.l2 fo71_2 rfl opd0,
            ok_load ty69 rfl opd0,
            ok_len un69 rfl opd0,
            ok_call (ok_f_hull_between N (List.length x0.Levels : Int) 2 30 _ hv12) Try.func34 (by kernel_rfl) (by kernel_rfl) rfl ⟨opd0, ⟨opdI, ⟨opdI, trivial⟩⟩⟩,
            ok_not rfl opd0,
            ok_move rfl opd0,
            obl_tf rfl rfl rfl rfl rfl rfl rfl (fun hg => ok_field GStation.l3 fo71_3 rfl opd1),
            obl_tf rfl rfl rfl rfl rfl rfl rfl (fun hg => ok_load ty69 rfl (opd1.on hg)),
            obl_tf rfl rfl rfl rfl rfl rfl rfl (fun hg => ok_len un69 rfl (opd1.on hg)),
            obl_tf rfl rfl rfl rfl rfl rfl rfl (fun hg => ok_field GStation.l2 fo71_2 rfl opd1),
            obl_tf rfl rfl rfl rfl rfl rfl rfl (fun hg => ok_load ty69 rfl (opd1.on hg)),
            obl_tf rfl rfl rfl rfl rfl rfl rfl (fun hg => ok_len un69 rfl (opd1.on hg)),
            obl_tf rfl rfl rfl rfl rfl rfl rfl (fun hg => ok_sub rfl (opd1.on hg) opdI),
            obl_tf rfl rfl rfl rfl rfl rfl rfl (fun hg => ok_cmp (op := .neq) (by simp) rfl rfl (opd1.on hg) (opd2.on hg)),
            ok_or rfl opd0 (fun e => (opd1.on (notT e))), trivial⟩ (by kernel_rfl) ?_
        clear hAt; intro a w hAt; replace hAt : At B h0 (mkG [(2, fRef GStation.rep x0), (57, fV Rep.bool ((!v12) || (cmpI .neq (List.length x0.Halves : Int) (IntKind.i64.wrap ((List.length x0.Levels : Int) - 1)))))]) (mkO []) F 93 a w := hAt; refine then_n ?_; refine wp_if hAt (by rfl) ?_ ?_
        · intro hb35; have H := iteT hb35 H; refine wp_seq ?_
          refine reg [⟨fV r_i64 11, [], [], []⟩] [4] [] hAt
              ⟨ok_assign rfl opdI, trivial⟩ (by kernel_rfl) ?_
          clear hAt; intro a w hAt; replace hAt : At B h0 (mkG [(4, fV r_i64 11)]) (mkO []) F 93 a w := hAt; refine then_n ?_; refine wp_ret ?_; refine then_r ?_
          cases H
          exact ret1 rfl (rv_tmp rfl rfl) hAt
        · intro hb35; have H := iteF hb35 H; refine wp_skip ?_; refine then_n ?_; refine wp_seq ?_; refine wp_seq ?_
          refine reg [⟨fRef (Rep.slice r_i64) x0.Levels, [], [(2, none)], []⟩,
              ⟨fV (Rep.slice r_i64) x0.Levels, [], [(58, some 0)], []⟩,
              ⟨fV r_i64 (List.length x0.Levels : Int), [], [(59, some 1)], []⟩,
              ⟨fV r_i64 0, [], [], []⟩] [2, 59, 60, 61] [] hAt
              ⟨ok_field GStation.l2 fo71_2 rfl opd0,
              ok_load ty69 rfl opd0,
              ok_len un69 rfl opd0,
              ok_move rfl opdI, trivial⟩ (by kernel_rfl) ?_
          clear hAt; intro a w hAt; replace hAt : At B h0 (mkG [(2, fRef GStation.rep x0), (59, fV (Rep.slice r_i64) x0.Levels), (60, fV r_i64 (List.length x0.Levels : Int)), (61, fV r_i64 0)]) (mkO []) F 93 a w := hAt; refine then_n ?_; refine wp_block ?_; obtain ⟨o20, hl21, H⟩ := bindE H
          refine wp_mono (wp_loopN (f := f_hull_checkStation_L2 N x0) (fun (s13 : Int) a w => At B h0 (mkG [(2, fRef GStation.rep x0), (59, fV (Rep.slice r_i64) x0.Levels), (60, fV r_i64 (List.length x0.Levels : Int)), (61, fV r_i64 s13)]) (mkO []) F 93 a w) (fun o e a w => (Sum.elim (fun v => e = .exit 1 ∧ At B h0 (mkG [(2, fRef GStation.rep x0)]) (mkO []) F 93 a w) (fun v => e = .ret ∧ At B h0 (mkG [(4, fV r_i64 v)]) (mkO []) F 93 a w)) o) ?_ N 0 o20 _ _ hl21 ?_) ?_
          · clear H hAt hl21; intro s13 r34 a w H hAt; unfold f_hull_checkStation_L2 at H; refine wp_seq ?_
            refine reg [⟨fV Rep.bool (cmpI .lss s13 (List.length x0.Levels : Int)), [], [(61, none), (60, none)], []⟩] [2, 59, 60, 61, 62] [] hAt
                ⟨ok_cmp (op := .lss) (by simp) rfl rfl opd0 opd1, trivial⟩ (by kernel_rfl) ?_
            clear hAt; intro a w hAt; replace hAt : At B h0 (mkG [(2, fRef GStation.rep x0), (59, fV (Rep.slice r_i64) x0.Levels), (60, fV r_i64 (List.length x0.Levels : Int)), (61, fV r_i64 s13), (62, fV Rep.bool (cmpI .lss s13 (List.length x0.Levels : Int)))]) (mkO []) F 93 a w := hAt; refine then_n ?_; refine wp_seq ?_; refine wp_if hAt (by rfl) ?_ ?_
            · intro hb19; have H := iteT hb19 H; refine wp_skip ?_; refine then_n ?_; refine wp_seq ?_; refine wp_block ?_; refine wp_seq ?_; obtain ⟨v14, hv14, H⟩ := bindE H
              refine reg [⟨fV r_i64 s13, [], [(61, none)], []⟩,
                  ⟨fRef r_i64 v14, [], [(59, none), (61, none)], []⟩,
                  ⟨fV r_i64 v14, [], [(64, some 1)], []⟩,
                  ⟨fV r_i64 s13, [], [(63, some 0)], []⟩,
                  ⟨fV r_i64 v14, [], [(65, some 2)], []⟩] [2, 6, 7, 59, 60, 61] [] hAt
                  ⟨ok_move rfl opd0,
                  ok_index ty3 un69 hv14 rfl opd0 opd1,
                  ok_load ty3 rfl opd0,
                  ok_assign rfl opd0,
                  ok_assign rfl opd0, trivial⟩ (by kernel_rfl) ?_
              clear hAt; intro a w hAt; replace hAt : At B h0 (mkG [(2, fRef GStation.rep x0), (6, fV r_i64 s13), (7, fV r_i64 v14), (59, fV (Rep.slice r_i64) x0.Levels), (60, fV r_i64 (List.length x0.Levels : Int)), (61, fV r_i64 s13)]) (mkO []) F 93 a w := hAt; refine then_n ?_; refine wp_seq ?_; refine wp_seq ?_; obtain ⟨v15, hv15, H⟩ := bindE H
              refine reg [⟨fV r_i64 v14, [], [(7, none)], []⟩,
                  ⟨fV Rep.bool v15, [], [(66, some 0)], []⟩,
                  ⟨fV Rep.bool (!v15), [], [(67, some 1)], []⟩] [2, 6, 7, 59, 60, 61, 68] [] hAt
                  ⟨ok_move rfl opd0,
                  ok_call (ok_f_hull_between N v14 0 100000 _ hv15) Try.func34 (by kernel_rfl) (by kernel_rfl) rfl ⟨opd0, ⟨opdI, ⟨opdI, trivial⟩⟩⟩,
                  ok_not rfl opd0, trivial⟩ (by kernel_rfl) ?_
              clear hAt; intro a w hAt; replace hAt : At B h0 (mkG [(2, fRef GStation.rep x0), (6, fV r_i64 s13), (7, fV r_i64 v14), (59, fV (Rep.slice r_i64) x0.Levels), (60, fV r_i64 (List.length x0.Levels : Int)), (61, fV r_i64 s13), (68, fV Rep.bool (!v15))]) (mkO []) F 93 a w := hAt; refine then_n ?_; refine wp_if hAt (by rfl) ?_ ?_
              · intro hb18; have H := iteT hb18 H; refine wp_seq ?_
                refine reg [⟨fV r_i64 2, [], [], []⟩] [4] [] hAt
                    ⟨ok_assign rfl opdI, trivial⟩ (by kernel_rfl) ?_
                clear hAt; intro a w hAt; replace hAt : At B h0 (mkG [(4, fV r_i64 2)]) (mkO []) F 93 a w := hAt; refine then_n ?_; refine wp_ret ?_; refine then_r ?_; refine blk_r ?_; refine then_r ?_
                cases H
                exact ⟨ret_ne, rfl, hAt.pick [4] []⟩
              · intro hb18; have H := iteF hb18 H; refine wp_skip ?_; refine then_n ?_; refine wp_seq ?_; obtain ⟨v16, hv16, H⟩ := bindE H
                refine reg [⟨fV r_i64 s13, [], [(6, none)], []⟩,
                    ⟨fV Rep.bool (cmpI .gtr s13 0), [], [(69, some 0)], []⟩,
                    ⟨fV Rep.bool (cmpI .gtr s13 0), [], [(70, some 1)], []⟩,
                    ⟨Fact.when ((cmpI .gtr s13 0) = true) (fV r_i64 v14), [], [(71, some 2), (7, none)], []⟩,
                    ⟨Fact.when ((cmpI .gtr s13 0) = true) (fRef (Rep.slice r_i64) x0.Levels), [], [(71, some 2), (2, none)], []⟩,
                    ⟨Fact.when ((cmpI .gtr s13 0) = true) (fV (Rep.slice r_i64) x0.Levels), [], [(71, some 2), (73, some 4)], []⟩,
                    ⟨Fact.when ((cmpI .gtr s13 0) = true) (fV r_i64 s13), [], [(71, some 2), (6, none)], []⟩,
                    ⟨Fact.when ((cmpI .gtr s13 0) = true) (fV r_i64 (IntKind.i64.wrap (s13 - 1))), [], [(71, some 2), (75, some 6)], []⟩,
                    ⟨Fact.when ((cmpI .gtr s13 0) = true) (fRef r_i64 v16), [], [(71, some 2), (74, some 5), (76, some 7)], []⟩,
                    ⟨Fact.when ((cmpI .gtr s13 0) = true) (fV r_i64 v16), [], [(71, some 2), (77, some 8)], []⟩,
                    ⟨Fact.when ((cmpI .gtr s13 0) = true) (fV Rep.bool (cmpI .leq v14 v16)), [], [(71, some 2), (72, some 3), (78, some 9)], []⟩,
                    ⟨fV Rep.bool ((cmpI .gtr s13 0) && (cmpI .leq v14 v16)), [], [(71, some 2), (79, some 10)], []⟩] [2, 59, 60, 61, 80] [] hAt
                    ⟨ok_move rfl opd0,
                    ok_cmp (op := .gtr) (by simp) rfl rfl opd0 opdI,
                    ok_move rfl opd0,
                    obl_tt rfl rfl rfl rfl rfl rfl rfl (fun hg => ok_move rfl opd1),
                    obl_tt rfl rfl rfl rfl rfl rfl rfl (fun hg => ok_field GStation.l2 fo71_2 rfl opd1),
                    obl_tt rfl rfl rfl rfl rfl rfl rfl (fun hg => ok_load ty69 rfl (opd1.on hg)),
                    obl_tt rfl rfl rfl rfl rfl rfl rfl (fun hg => ok_move rfl opd1),
                    obl_tt rfl rfl rfl rfl rfl rfl rfl (fun hg => ok_sub rfl (opd1.on hg) opdI),
                    obl_tt rfl rfl rfl rfl rfl rfl rfl (fun hg => ok_index ty3 un69 (iteT hg hv16) rfl (opd1.on hg) (opd2.on hg)),
                    obl_tt rfl rfl rfl rfl rfl rfl rfl (fun hg => ok_load ty3 rfl (opd1.on hg)),
                    obl_tt rfl rfl rfl rfl rfl rfl rfl (fun hg => ok_cmp (op := .leq) (by simp) rfl rfl (opd1.on hg) (opd2.on hg)),
                    ok_and rfl opd0 (fun e => (opd1.on e)), trivial⟩ (by kernel_rfl) ?_
                clear hAt; intro a w hAt; replace hAt : At B h0 (mkG [(2, fRef GStation.rep x0), (59, fV (Rep.slice r_i64) x0.Levels), (60, fV r_i64 (List.length x0.Levels : Int)), (61, fV r_i64 s13), (80, fV Rep.bool ((cmpI .gtr s13 0) && (cmpI .leq v14 v16)))]) (mkO []) F 93 a w := hAt; refine then_n ?_; refine wp_if hAt (by rfl) ?_ ?_
                · intro hb17; have H := iteT hb17 H; refine wp_seq ?_
                  refine reg [⟨fV r_i64 10, [], [], []⟩] [4] [] hAt
                      ⟨ok_assign rfl opdI, trivial⟩ (by kernel_rfl) ?_
                  clear hAt; intro a w hAt; replace hAt : At B h0 (mkG [(4, fV r_i64 10)]) (mkO []) F 93 a w := hAt; refine then_n ?_; refine wp_ret ?_; refine blk_r ?_; refine then_r ?_
                  cases H
                  exact ⟨ret_ne, rfl, hAt.pick [4] []⟩
                · intro hb17; have H := iteF hb17 H; refine wp_skip ?_; refine blk_n ?_; refine then_n ?_
                  refine reg [⟨fV r_i64 (IntKind.i64.wrap (s13 + 1)), [], [(61, none)], []⟩,
                      ⟨fV r_i64 (IntKind.i64.wrap (s13 + 1)), [], [(81, some 0)], []⟩] [2, 59, 60, 61] [] hAt
                      ⟨ok_add rfl opd0 opdI,
                      ok_move rfl opd0, trivial⟩ (by kernel_rfl) ?_
                  clear hAt; intro a w hAt; replace hAt : At B h0 (mkG [(2, fRef GStation.rep x0), (59, fV (Rep.slice r_i64) x0.Levels), (60, fV r_i64 (List.length x0.Levels : Int)), (61, fV r_i64 (IntKind.i64.wrap (s13 + 1)))]) (mkO []) F 93 a w := hAt
                  cases H
                  exact ⟨rfl, hAt.pick [2, 59, 60, 61] []⟩
            · intro hb19; have H := iteF hb19 H; refine wp_exit ?_; refine then_x ?_
              cases H
              exact ⟨ex_ne, rfl, hAt.pick [2] []⟩
          · exact hAt.pick [2, 59, 60, 61] []
          · clear hAt; intro e a w hp
            cases o20 with
            | inl l22 =>
              rw [Sum.elim_inl] at H; obtain ⟨rfl, hAt⟩ := hp; refine blk_eq ?_; refine then_n ?_; refine wp_seq ?_; refine wp_seq ?_
              refine reg [⟨fRef (Rep.slice r_i64) x0.Halves, [], [(2, none)], []⟩,
                  ⟨fV (Rep.slice r_i64) x0.Halves, [], [(82, some 0)], []⟩,
                  ⟨fV r_i64 (List.length x0.Halves : Int), [], [(83, some 1)], []⟩,
                  ⟨fV r_i64 0, [], [], []⟩] [83, 84, 85] [] hAt
                  ⟨ok_field GStation.l3 fo71_3 rfl opd0,
                  ok_load ty69 rfl opd0,
                  ok_len un69 rfl opd0,
                  ok_move rfl opdI, trivial⟩ (by kernel_rfl) ?_
              clear hAt; intro a w hAt; replace hAt : At B h0 (mkG [(83, fV (Rep.slice r_i64) x0.Halves), (84, fV r_i64 (List.length x0.Halves : Int)), (85, fV r_i64 0)]) (mkO []) F 93 a w := hAt; refine then_n ?_; refine wp_block ?_; obtain ⟨o29, hl30, H⟩ := bindE H
              refine wp_mono (wp_loopN (f := f_hull_checkStation_L1 N x0) (fun (s24 : Int) a w => At B h0 (mkG [(83, fV (Rep.slice r_i64) x0.Halves), (84, fV r_i64 (List.length x0.Halves : Int)), (85, fV r_i64 s24)]) (mkO []) F 93 a w) (fun o e a w => (Sum.elim (fun v => e = .exit 3 ∧ At B h0 (mkG []) (mkO []) F 93 a w) (fun v => e = .ret ∧ At B h0 (mkG [(4, fV r_i64 v)]) (mkO []) F 93 a w)) o) ?_ N 0 o29 _ _ hl30 ?_) ?_
              · clear H hAt hl30; intro s24 r33 a w H hAt; unfold f_hull_checkStation_L1 at H; refine wp_seq ?_
                refine reg [⟨fV Rep.bool (cmpI .lss s24 (List.length x0.Halves : Int)), [], [(85, none), (84, none)], []⟩] [83, 84, 85, 86] [] hAt
                    ⟨ok_cmp (op := .lss) (by simp) rfl rfl opd0 opd1, trivial⟩ (by kernel_rfl) ?_
                clear hAt; intro a w hAt; replace hAt : At B h0 (mkG [(83, fV (Rep.slice r_i64) x0.Halves), (84, fV r_i64 (List.length x0.Halves : Int)), (85, fV r_i64 s24), (86, fV Rep.bool (cmpI .lss s24 (List.length x0.Halves : Int)))]) (mkO []) F 93 a w := hAt; refine then_n ?_; refine wp_seq ?_; refine wp_if hAt (by rfl) ?_ ?_
                · intro hb28; have H := iteT hb28 H; refine wp_skip ?_; refine then_n ?_; refine wp_seq ?_; refine wp_block ?_; refine wp_seq ?_; obtain ⟨v25, hv25, H⟩ := bindE H
                  refine reg [⟨fRef r_i64 v25, [], [(83, none), (85, none)], []⟩,
                      ⟨fV r_i64 v25, [], [(87, some 0)], []⟩,
                      ⟨fV r_i64 v25, [], [(88, some 1)], []⟩] [9, 83, 84, 85] [] hAt
                      ⟨ok_index ty3 un69 hv25 rfl opd0 opd1,
                      ok_load ty3 rfl opd0,
                      ok_assign rfl opd0, trivial⟩ (by kernel_rfl) ?_
                  clear hAt; intro a w hAt; replace hAt : At B h0 (mkG [(9, fV r_i64 v25), (83, fV (Rep.slice r_i64) x0.Halves), (84, fV r_i64 (List.length x0.Halves : Int)), (85, fV r_i64 s24)]) (mkO []) F 93 a w := hAt; refine then_n ?_; refine wp_seq ?_; obtain ⟨v26, hv26, H⟩ := bindE H
                  refine reg [⟨fV r_i64 v25, [], [(9, none)], []⟩,
                      ⟨fV Rep.bool v26, [], [(89, some 0)], []⟩,
                      ⟨fV Rep.bool (!v26), [], [(90, some 1)], []⟩] [83, 84, 85, 91] [] hAt
                      ⟨ok_move rfl opd0,
                      ok_call (ok_f_hull_between N v25 0 100000 _ hv26) Try.func34 (by kernel_rfl) (by kernel_rfl) rfl ⟨opd0, ⟨opdI, ⟨opdI, trivial⟩⟩⟩,
                      ok_not rfl opd0, trivial⟩ (by kernel_rfl) ?_
                  clear hAt; intro a w hAt; replace hAt : At B h0 (mkG [(83, fV (Rep.slice r_i64) x0.Halves), (84, fV r_i64 (List.length x0.Halves : Int)), (85, fV r_i64 s24), (91, fV Rep.bool (!v26))]) (mkO []) F 93 a w := hAt; refine then_n ?_; refine wp_if hAt (by rfl) ?_ ?_
                  · intro hb27; have H := iteT hb27 H; refine wp_seq ?_
                    refine reg [⟨fV r_i64 2, [], [], []⟩] [4] [] hAt
                        ⟨ok_assign rfl opdI, trivial⟩ (by kernel_rfl) ?_
                    clear hAt; intro a w hAt; replace hAt : At B h0 (mkG [(4, fV r_i64 2)]) (mkO []) F 93 a w := hAt; refine then_n ?_; refine wp_ret ?_; refine blk_r ?_; refine then_r ?_
                    cases H
                    exact ⟨ret_ne, rfl, hAt.pick [4] []⟩
                  · intro hb27; have H := iteF hb27 H; refine wp_skip ?_; refine blk_n ?_; refine then_n ?_
                    refine reg [⟨fV r_i64 (IntKind.i64.wrap (s24 + 1)), [], [(85, none)], []⟩,
                        ⟨fV r_i64 (IntKind.i64.wrap (s24 + 1)), [], [(92, some 0)], []⟩] [83, 84, 85] [] hAt
                        ⟨ok_add rfl opd0 opdI,
                        ok_move rfl opd0, trivial⟩ (by kernel_rfl) ?_
                    clear hAt; intro a w hAt; replace hAt : At B h0 (mkG [(83, fV (Rep.slice r_i64) x0.Halves), (84, fV r_i64 (List.length x0.Halves : Int)), (85, fV r_i64 (IntKind.i64.wrap (s24 + 1)))]) (mkO []) F 93 a w := hAt
                    cases H
                    exact ⟨rfl, hAt.pick [83, 84, 85] []⟩
                · intro hb28; have H := iteF hb28 H; refine wp_exit ?_; refine then_x ?_
                  cases H
                  exact ⟨ex_ne, rfl, hAt.pick [] []⟩
              · exact hAt.pick [83, 84, 85] []
              · clear hAt; intro e a w hp
                cases o29 with
                | inl l31 =>
                  rw [Sum.elim_inl] at H; obtain ⟨rfl, hAt⟩ := hp; refine blk_eq ?_; refine then_n ?_; refine wp_seq ?_
                  refine reg [⟨fV r_i64 0, [], [], []⟩] [4] [] hAt
                      ⟨ok_assign rfl opdI, trivial⟩ (by kernel_rfl) ?_
                  clear hAt; intro a w hAt; replace hAt : At B h0 (mkG [(4, fV r_i64 0)]) (mkO []) F 93 a w := hAt; refine then_n ?_; refine wp_ret ?_
                  cases H
                  exact ret1 rfl (rv_tmp rfl rfl) hAt
                | inr r32 =>
                  rw [Sum.elim_inr] at H; replace hp := hp; obtain ⟨rfl, hAt⟩ := hp; refine blk_r ?_; refine then_r ?_
                  cases H
                  exact ret1 rfl (rv_tmp rfl rfl) hAt
            | inr r23 =>
              rw [Sum.elim_inr] at H; replace hp := hp; obtain ⟨rfl, hAt⟩ := hp; refine blk_r ?_; refine then_r ?_
              cases H
              exact ret1 rfl (rv_tmp rfl rfl) hAt
      | inr r11 =>
        rw [Sum.elim_inr] at H; replace hp := hp; obtain ⟨rfl, hAt⟩ := hp; refine then_r ?_
        cases H
        exact ret1 rfl (rv_tmp rfl rfl) hAt
theorem ok_f_hull_checkNumbers (N : Nat) (x0 : GLoad) (x1 : Int) (r : Int) (H : f_hull_checkNumbers N x0 x1 = some r) : FnOk Try.prog 38 [fV GLoad.rep x0, fV r_i64 x1] (fV r_i64 r) := by
  unfold f_hull_checkNumbers at H; refine fn_enter Try.func38 rfl rfl (by kernel_rfl) ?_; intro κ B h0 F a w hAt; refine wp_seq ?_
  refine reg [⟨fRef GLoad.rep x0, [], [(0, none)], []⟩,
      ⟨fV r_i64 0, [], [], []⟩] [1, 2] [] hAt
      ⟨ok_box rfl opd0,
      ok_assign rfl opdI, trivial⟩ (by kernel_rfl) ?_
  clear hAt; intro a w hAt; replace hAt : At B h0 (mkG [(1, fV r_i64 x1), (2, fRef GLoad.rep x0)]) (mkO []) F 28 a w := hAt; refine then_n ?_; refine wp_seq ?_; refine wp_seq ?_; obtain ⟨v1, hv1, H⟩ := bindE H; obtain ⟨v2, hv2, H⟩ := bindE H; obtain ⟨v3, hv3, H⟩ := bindE H; obtain ⟨v4, hv4, H⟩ := bindE H
  refine reg [⟨fRef r_i64 x0.Mass, [], [(2, none)], []⟩,
      ⟨fV r_i64 x0.Mass, [], [(5, some 0)], []⟩,
      ⟨fV r_i64 x1, [], [(1, none)], []⟩,
      ⟨fV Rep.bool v1, [], [(6, some 1), (7, some 2)], []⟩,
      ⟨fV Rep.bool (!v1), [], [(8, some 3)], []⟩,
      ⟨fV Rep.bool (!v1), [], [(9, some 4)], []⟩,
      ⟨Fact.when ((!(!v1)) = true) (fRef r_i64 x0.X), [], [(10, some 5), (2, none)], []⟩,
      ⟨Fact.when ((!(!v1)) = true) (fV r_i64 x0.X), [], [(10, some 5), (11, some 6)], []⟩,
      ⟨Fact.when ((!(!v1)) = true) (fV Rep.bool v2), [], [(10, some 5), (12, some 7)], []⟩,
      ⟨Fact.when ((!(!v1)) = true) (fV Rep.bool (!v2)), [], [(10, some 5), (13, some 8)], []⟩,
      ⟨fV Rep.bool ((!v1) || (!v2)), [], [(10, some 5), (14, some 9)], []⟩,
      ⟨fV Rep.bool ((!v1) || (!v2)), [], [(15, some 10)], []⟩,
      ⟨Fact.when ((!((!v1) || (!v2))) = true) (fRef r_i64 x0.Z), [], [(16, some 11), (2, none)], []⟩,
      ⟨Fact.when ((!((!v1) || (!v2))) = true) (fV r_i64 x0.Z), [], [(16, some 11), (17, some 12)], []⟩,
      ⟨Fact.when ((!((!v1) || (!v2))) = true) (fV Rep.bool v3), [], [(16, some 11), (18, some 13)], []⟩,
      ⟨Fact.when ((!((!v1) || (!v2))) = true) (fV Rep.bool (!v3)), [], [(16, some 11), (19, some 14)], []⟩,
      ⟨fV Rep.bool (((!v1) || (!v2)) || (!v3)), [], [(16, some 11), (20, some 15)], []⟩,
      ⟨fV Rep.bool (((!v1) || (!v2)) || (!v3)), [], [(21, some 16)], []⟩,
      ⟨Fact.when ((!(((!v1) || (!v2)) || (!v3))) = true) (fRef r_i64 x0.Free), [], [(22, some 17), (2, none)], []⟩,
      ⟨Fact.when ((!(((!v1) || (!v2)) || (!v3))) = true) (fV r_i64 x0.Free), [], [(22, some 17), (23, some 18)], []⟩,
      ⟨Fact.when ((!(((!v1) || (!v2)) || (!v3))) = true) (fV Rep.bool v4), [], [(22, some 17), (24, some 19)], []⟩,
      ⟨Fact.when ((!(((!v1) || (!v2)) || (!v3))) = true) (fV Rep.bool (!v4)), [], [(22, some 17), (25, some 20)], []⟩,
      ⟨fV Rep.bool ((((!v1) || (!v2)) || (!v3)) || (!v4)), [], [(22, some 17), (26, some 21)], []⟩] [27] [] hAt
      ⟨ok_field GLoad.l1 fo24_1 rfl opd0,
      ok_load ty3 rfl opd0,
      ok_move rfl opd0,
      ok_call (ok_f_hull_between N x0.Mass x1 1000000000 _ hv1) Try.func34 (by kernel_rfl) (by kernel_rfl) rfl ⟨opd0, ⟨opd1, ⟨opdI, trivial⟩⟩⟩,
      ok_not rfl opd0,
      ok_move rfl opd0,
      obl_tf rfl rfl rfl rfl rfl rfl rfl (fun hg => ok_field GLoad.l2 fo24_2 rfl opd1),
      obl_tf rfl rfl rfl rfl rfl rfl rfl (fun hg => ok_load ty3 rfl (opd1.on hg)),
      obl_tf rfl rfl rfl rfl rfl rfl rfl (fun hg => ok_call (ok_f_hull_between N x0.X (-1000000) 1000000 _ (iteT hg hv2)) Try.func34 (by kernel_rfl) (by kernel_rfl) rfl ⟨(opd1.on hg), ⟨opdI, ⟨opdI, trivial⟩⟩⟩),
      obl_tf rfl rfl rfl rfl rfl rfl rfl (fun hg => ok_not rfl (opd1.on hg)),
      ok_or rfl opd0 (fun e => (opd1.on (notT e))),
      ok_move rfl opd0,
      obl_tf rfl rfl rfl rfl rfl rfl rfl (fun hg => ok_field GLoad.l3 fo24_3 rfl opd1),
      obl_tf rfl rfl rfl rfl rfl rfl rfl (fun hg => ok_load ty3 rfl (opd1.on hg)),
      obl_tf rfl rfl rfl rfl rfl rfl rfl (fun hg => ok_call (ok_f_hull_between N x0.Z (-100000) 100000 _ (iteT hg hv3)) Try.func34 (by kernel_rfl) (by kernel_rfl) rfl ⟨(opd1.on hg), ⟨opdI, ⟨opdI, trivial⟩⟩⟩),
      obl_tf rfl rfl rfl rfl rfl rfl rfl (fun hg => ok_not rfl (opd1.on hg)),
      ok_or rfl opd0 (fun e => (opd1.on (notT e))),
      ok_move rfl opd0,
      obl_tf rfl rfl rfl rfl rfl rfl rfl (fun hg => ok_field GLoad.l4 fo24_4 rfl opd1),
      obl_tf rfl rfl rfl rfl rfl rfl rfl (fun hg => ok_load ty3 rfl (opd1.on hg)),
      obl_tf rfl rfl rfl rfl rfl rfl rfl (fun hg => ok_call (ok_f_hull_between N x0.Free 0 1000000000 _ (iteT hg hv4)) Try.func34 (by kernel_rfl) (by kernel_rfl) rfl ⟨(opd1.on hg), ⟨opdI, ⟨opdI, trivial⟩⟩⟩),
      obl_tf rfl rfl rfl rfl rfl rfl rfl (fun hg => ok_not rfl (opd1.on hg)),
      ok_or rfl opd0 (fun e => (opd1.on (notT e))), trivial⟩ (by kernel_rfl) ?_
  clear hAt; intro a w hAt; replace hAt : At B h0 (mkG [(27, fV Rep.bool ((((!v1) || (!v2)) || (!v3)) || (!v4)))]) (mkO []) F 28 a w := hAt; refine then_n ?_; refine wp_if hAt (by rfl) ?_ ?_
  · intro hb5; have H := iteT hb5 H; refine wp_seq ?_
    refine reg [⟨fV r_i64 2, [], [], []⟩] [4] [] hAt
        ⟨ok_assign rfl opdI, trivial⟩ (by kernel_rfl) ?_
    clear hAt; intro a w hAt; replace hAt : At B h0 (mkG [(4, fV r_i64 2)]) (mkO []) F 28 a w := hAt; refine then_n ?_; refine wp_ret ?_; refine then_r ?_
    cases H
    exact ret1 rfl (rv_tmp rfl rfl) hAt
  · intro hb5; have H := iteF hb5 H; refine wp_skip ?_; refine then_n ?_; refine wp_seq ?_
    refine reg [⟨fV r_i64 0, [], [], []⟩] [4] [] hAt
        ⟨ok_assign rfl opdI, trivial⟩ (by kernel_rfl) ?_
    clear hAt; intro a w hAt; replace hAt : At B h0 (mkG [(4, fV r_i64 0)]) (mkO []) F 28 a w := hAt; refine then_n ?_; refine wp_ret ?_
    cases H
    exact ret1 rfl (rv_tmp rfl rfl) hAt
theorem ok_f_hull_checkLoads (N : Nat) (x0 : GShip) (r : Int) (H : f_hull_checkLoads N x0 = some r) : FnOk Try.prog 36 [fV GShip.rep x0] (fV r_i64 r) := by
  unfold f_hull_checkLoads at H; refine fn_enter Try.func36 rfl rfl (by kernel_rfl) ?_; intro κ B h0 F a w hAt; refine wp_seq ?_
  refine reg [⟨fRef GShip.rep x0, [], [(0, none)], []⟩,
      ⟨fV r_i64 0, [], [], []⟩] [1] [] hAt
      ⟨ok_box rfl opd0,
      ok_assign rfl opdI, trivial⟩ (by kernel_rfl) ?_
  clear hAt; intro a w hAt; replace hAt : At B h0 (mkG [(1, fRef GShip.rep x0)]) (mkO []) F 52 a w := hAt; refine then_n ?_; refine wp_seq ?_; refine wp_seq ?_; obtain ⟨v1, hv1, H⟩ := bindE H
  refine reg [⟨fRef GLoad.rep x0.Light, [], [(1, none)], []⟩,
      ⟨fRef Rep.str x0.Light.Name, [], [(8, some 0)], []⟩,
      ⟨fV Rep.str x0.Light.Name, [], [(9, some 1)], []⟩,
      ⟨fV Rep.bool v1, [], [(10, some 2)], []⟩,
      ⟨fV Rep.bool (!v1), [], [(11, some 3)], []⟩] [1, 12] [] hAt
      ⟨ok_field GShip.l3 fo27_3 rfl opd0,
      ok_field GLoad.l0 fo24_0 rfl opd0,
      ok_load ty9 rfl opd0,
      ok_call (ok_f_hull_isName N x0.Light.Name _ hv1) Try.func33 (by kernel_rfl) (by kernel_rfl) rfl ⟨opd0, trivial⟩,
      ok_not rfl opd0, trivial⟩ (by kernel_rfl) ?_
  clear hAt; intro a w hAt; replace hAt : At B h0 (mkG [(1, fRef GShip.rep x0), (12, fV Rep.bool (!v1))]) (mkO []) F 52 a w := hAt; refine then_n ?_; refine wp_if hAt (by rfl) ?_ ?_
  · intro hb18; have H := iteT hb18 H; refine wp_seq ?_
    refine reg [⟨fV r_i64 4, [], [], []⟩] [2] [] hAt
        ⟨ok_assign rfl opdI, trivial⟩ (by kernel_rfl) ?_
    clear hAt; intro a w hAt; replace hAt : At B h0 (mkG [(2, fV r_i64 4)]) (mkO []) F 52 a w := hAt; refine then_n ?_; refine wp_ret ?_; refine then_r ?_
    cases H
    exact ret1 rfl (rv_tmp rfl rfl) hAt
  · intro hb18; have H := iteF hb18 H; refine wp_skip ?_; refine then_n ?_; refine wp_seq ?_; refine wp_seq ?_; obtain ⟨v2, hv2, H⟩ := bindE H
    refine reg [⟨fRef GLoad.rep x0.Light, [], [(1, none)], []⟩,
        ⟨fV GLoad.rep x0.Light, [], [(13, some 0)], []⟩,
        ⟨fV r_i64 v2, [], [(14, some 1)], []⟩,
        ⟨fV r_i64 v2, [], [(15, some 2)], []⟩] [1, 3] [] hAt
        ⟨ok_field GShip.l3 fo27_3 rfl opd0,
        ok_load ty24 rfl opd0,
        ok_call (ok_f_hull_checkNumbers N x0.Light 1 _ hv2) Try.func38 (by kernel_rfl) (by kernel_rfl) rfl ⟨opd0, ⟨opdI, trivial⟩⟩,
        ok_assign rfl opd0, trivial⟩ (by kernel_rfl) ?_
    clear hAt; intro a w hAt; replace hAt : At B h0 (mkG [(1, fRef GShip.rep x0), (3, fV r_i64 v2)]) (mkO []) F 52 a w := hAt; refine then_n ?_; refine wp_seq ?_
    refine reg [⟨fV r_i64 v2, [], [(3, none)], []⟩,
        ⟨fV Rep.bool (cmpI .neq v2 0), [], [(16, some 0)], []⟩] [1, 3, 17] [] hAt
        ⟨ok_move rfl opd0,
        ok_cmp (op := .neq) (by simp) rfl rfl opd0 opdI, trivial⟩ (by kernel_rfl) ?_
    clear hAt; intro a w hAt; replace hAt : At B h0 (mkG [(1, fRef GShip.rep x0), (3, fV r_i64 v2), (17, fV Rep.bool (cmpI .neq v2 0))]) (mkO []) F 52 a w := hAt; refine then_n ?_; refine wp_if hAt (by rfl) ?_ ?_
    · intro hb17; have H := iteT hb17 H; refine wp_seq ?_
      refine reg [⟨fV r_i64 v2, [], [(3, none)], []⟩,
          ⟨fV r_i64 v2, [], [(18, some 0)], []⟩] [2] [] hAt
          ⟨ok_move rfl opd0,
          ok_assign rfl opd0, trivial⟩ (by kernel_rfl) ?_
      clear hAt; intro a w hAt; replace hAt : At B h0 (mkG [(2, fV r_i64 v2)]) (mkO []) F 52 a w := hAt; refine then_n ?_; refine wp_ret ?_; refine then_r ?_
      cases H
      exact ret1 rfl (rv_tmp rfl rfl) hAt
    · intro hb17; have H := iteF hb17 H; refine wp_skip ?_; refine then_n ?_; refine wp_seq ?_; refine wp_seq ?_
      refine reg [⟨fRef (Rep.slice GLoad.rep) x0.Items, [], [(1, none)], []⟩,
          ⟨fV (Rep.slice GLoad.rep) x0.Items, [], [(19, some 0)], []⟩,
          ⟨fV r_i64 (List.length x0.Items : Int), [], [(20, some 1)], []⟩,
          ⟨fV Rep.bool (cmpI .gtr (List.length x0.Items : Int) 60), [], [(21, some 2)], []⟩] [1, 22] [] hAt
          ⟨ok_field GShip.l4 fo27_4 rfl opd0,
          ok_load ty25 rfl opd0,
          ok_len un25 rfl opd0,
          ok_cmp (op := .gtr) (by simp) rfl rfl opd0 opdI, trivial⟩ (by kernel_rfl) ?_
      clear hAt; intro a w hAt; replace hAt : At B h0 (mkG [(1, fRef GShip.rep x0), (22, fV Rep.bool (cmpI .gtr (List.length x0.Items : Int) 60))]) (mkO []) F 52 a w := hAt; refine then_n ?_; refine wp_if hAt (by rfl) ?_ ?_
      · intro hb16; have H := iteT hb16 H; refine wp_seq ?_
        refine reg [⟨fV r_i64 8, [], [], []⟩] [2] [] hAt
            ⟨ok_assign rfl opdI, trivial⟩ (by kernel_rfl) ?_
        clear hAt; intro a w hAt; replace hAt : At B h0 (mkG [(2, fV r_i64 8)]) (mkO []) F 52 a w := hAt; refine then_n ?_; refine wp_ret ?_; refine then_r ?_
        cases H
        exact ret1 rfl (rv_tmp rfl rfl) hAt
      · intro hb16; have H := iteF hb16 H; refine wp_skip ?_; refine then_n ?_; refine wp_seq ?_
        refine reg [⟨Fact.triv, [(23, some (mapE kStr Rep.bool ([] : (List (Str × Bool)))))], [], []⟩,
            ⟨fRef GLoad.rep x0.Light, [], [(1, none)], []⟩,
            ⟨fRef Rep.str x0.Light.Name, [], [(24, some 1)], []⟩,
            ⟨fV Rep.str x0.Light.Name, [], [(25, some 2)], []⟩,
            ⟨Fact.triv, [(23, some (mapE kStr Rep.bool (mset ([] : (List (Str × Bool))) x0.Light.Name true)))], [(26, some 3)], [(23, some 0)]⟩,
            ⟨Fact.triv, [(23, none), (27, some (mapE kStr Rep.bool (mset ([] : (List (Str × Bool))) x0.Light.Name true)))], [], [(23, some 4)]⟩,
            ⟨Fact.triv, [(27, none), (4, some (mapE kStr Rep.bool (mset ([] : (List (Str × Bool))) x0.Light.Name true)))], [], [(27, some 5)]⟩] [1] [4] hAt
            ⟨ok_makeMap rfl rfl,
            ok_field GShip.l3 fo27_3 rfl opd0,
            ok_field GLoad.l0 fo24_0 rfl opd0,
            ok_load ty9 rfl opd0,
            ok_mapUpdate ko9 un115 rfl (.inr rfl) opdSelf opd0 opdB,
            (ok_moveOwn (f := Fact.triv) rfl rfl (.inl rfl) (fun _ _ _ => trivial)),
            (ok_moveOwn (f := Fact.triv) rfl rfl (.inr rfl) (fun _ _ _ => trivial)), trivial⟩ (by kernel_rfl) ?_
        clear hAt; intro a w hAt; replace hAt : At B h0 (mkG [(1, fRef GShip.rep x0)]) (mkO [(4, mapE kStr Rep.bool (mset ([] : (List (Str × Bool))) x0.Light.Name true))]) F 52 a w := hAt; refine then_n ?_; refine wp_seq ?_; refine wp_seq ?_
        refine reg [⟨fRef (Rep.slice GLoad.rep) x0.Items, [], [(1, none)], []⟩,
            ⟨fV (Rep.slice GLoad.rep) x0.Items, [], [(28, some 0)], []⟩,
            ⟨fV r_i64 (List.length x0.Items : Int), [], [(29, some 1)], []⟩,
            ⟨fV r_i64 0, [], [], []⟩] [29, 30, 31] [4] hAt
            ⟨ok_field GShip.l4 fo27_4 rfl opd0,
            ok_load ty25 rfl opd0,
            ok_len un25 rfl opd0,
            ok_move rfl opdI, trivial⟩ (by kernel_rfl) ?_
        clear hAt; intro a w hAt; replace hAt : At B h0 (mkG [(29, fV (Rep.slice GLoad.rep) x0.Items), (30, fV r_i64 (List.length x0.Items : Int)), (31, fV r_i64 0)]) (mkO [(4, mapE kStr Rep.bool (mset ([] : (List (Str × Bool))) x0.Light.Name true))]) F 52 a w := hAt; refine then_n ?_; refine wp_block ?_; obtain ⟨o11, hl12, H⟩ := bindE H
        refine wp_mono (wp_loopN (f := f_hull_checkLoads_L1 N x0) (fun (s3 : ((List (Str × Bool)) × Int)) a w => At B h0 (mkG [(29, fV (Rep.slice GLoad.rep) x0.Items), (30, fV r_i64 (List.length x0.Items : Int)), (31, fV r_i64 s3.2)]) (mkO [(4, mapE kStr Rep.bool s3.1)]) F 52 a w) (fun o e a w => (Sum.elim (fun v => e = .exit 0 ∧ At B h0 (mkG []) (mkO []) F 52 a w) (fun v => e = .ret ∧ At B h0 (mkG [(2, fV r_i64 v)]) (mkO []) F 52 a w)) o) ?_ N ((mset ([] : (List (Str × Bool))) x0.Light.Name true), 0) o11 _ _ hl12 ?_) ?_
        · clear H hAt hl12; intro s3 r15 a w H hAt; unfold f_hull_checkLoads_L1 at H; refine wp_seq ?_
          refine reg [⟨fV Rep.bool (cmpI .lss s3.2 (List.length x0.Items : Int)), [], [(31, none), (30, none)], []⟩] [29, 30, 31, 32] [4] hAt
              ⟨ok_cmp (op := .lss) (by simp) rfl rfl opd0 opd1, trivial⟩ (by kernel_rfl) ?_
          clear hAt; intro a w hAt; replace hAt : At B h0 (mkG [(29, fV (Rep.slice GLoad.rep) x0.Items), (30, fV r_i64 (List.length x0.Items : Int)), (31, fV r_i64 s3.2), (32, fV Rep.bool (cmpI .lss s3.2 (List.length x0.Items : Int)))]) (mkO [(4, mapE kStr Rep.bool s3.1)]) F 52 a w := hAt; refine then_n ?_; refine wp_seq ?_; refine wp_if hAt (by rfl) ?_ ?_
          · intro hb10; have H := iteT hb10 H; refine wp_skip ?_; refine then_n ?_; refine wp_seq ?_; refine wp_block ?_; refine wp_seq ?_; obtain ⟨v4, hv4, H⟩ := bindE H
            refine reg [⟨fRef GLoad.rep v4, [], [(29, none), (31, none)], []⟩,
                ⟨fV GLoad.rep v4, [], [(33, some 0)], []⟩,
                ⟨Fact.triv, [(6, some (boxE 24 GLoad.rep (⟨[], 0, 0, 0, 0⟩ : GLoad)))], [], []⟩,
                ⟨Fact.triv, [(6, some (boxE 24 GLoad.rep v4))], [(34, some 1)], [(6, some 2)]⟩] [29, 30, 31] [4, 6] hAt
                ⟨ok_index ty24 un25 hv4 rfl opd0 opd1,
                ok_load ty24 rfl opd0,
                ok_alloc ty24 rfl rfl,
                ok_storeBox ty24 rfl rfl opd0, trivial⟩ (by kernel_rfl) ?_
            clear hAt; intro a w hAt; replace hAt : At B h0 (mkG [(29, fV (Rep.slice GLoad.rep) x0.Items), (30, fV r_i64 (List.length x0.Items : Int)), (31, fV r_i64 s3.2)]) (mkO [(4, mapE kStr Rep.bool s3.1), (6, boxE 24 GLoad.rep v4)]) F 52 a w := hAt; refine then_n ?_; refine wp_seq ?_; refine wp_seq ?_; obtain ⟨v5, hv5, H⟩ := bindE H
            refine reg [⟨fOff 6 0, [], [], [(6, none)]⟩,
                ⟨fV Rep.str v4.Name, [], [(35, some 0)], [(6, none)]⟩,
                ⟨fV Rep.bool v5, [], [(36, some 1)], []⟩,
                ⟨fV Rep.bool (!v5), [], [(37, some 2)], []⟩] [29, 30, 31, 38] [4, 6] hAt
                ⟨ok_fieldOwn fo24_0 rfl,
                ok_loadOwn GLoad.l0 ty9 rfl opd0,
                ok_call (ok_f_hull_isName N v4.Name _ hv5) Try.func33 (by kernel_rfl) (by kernel_rfl) rfl ⟨opd0, trivial⟩,
                ok_not rfl opd0, trivial⟩ (by kernel_rfl) ?_
            clear hAt; intro a w hAt; replace hAt : At B h0 (mkG [(29, fV (Rep.slice GLoad.rep) x0.Items), (30, fV r_i64 (List.length x0.Items : Int)), (31, fV r_i64 s3.2), (38, fV Rep.bool (!v5))]) (mkO [(4, mapE kStr Rep.bool s3.1), (6, boxE 24 GLoad.rep v4)]) F 52 a w := hAt; refine then_n ?_; refine wp_if hAt (by rfl) ?_ ?_
            · intro hb9; have H := iteT hb9 H; refine wp_seq ?_
              refine reg [⟨fV r_i64 4, [], [], []⟩] [2] [] hAt
                  ⟨ok_assign rfl opdI, trivial⟩ (by kernel_rfl) ?_
              clear hAt; intro a w hAt; replace hAt : At B h0 (mkG [(2, fV r_i64 4)]) (mkO []) F 52 a w := hAt; refine then_n ?_; refine wp_ret ?_; refine then_r ?_; refine blk_r ?_; refine then_r ?_
              cases H
              exact ⟨ret_ne, rfl, hAt.pick [2] []⟩
            · intro hb9; have H := iteF hb9 H; refine wp_skip ?_; refine then_n ?_; refine wp_seq ?_; refine wp_seq ?_
              refine reg [⟨fCp 4, [], [], []⟩,
                  ⟨fOff 6 0, [], [], [(6, none)]⟩,
                  ⟨fV Rep.str v4.Name, [], [(40, some 1)], [(6, none)]⟩,
                  ⟨fV Rep.bool (mget false s3.1 v4.Name), [], [(39, some 0), (41, some 2)], [(4, none)]⟩] [29, 30, 31, 42] [4, 6] hAt
                  ⟨ok_cp rfl,
                  ok_fieldOwn fo24_0 rfl,
                  ok_loadOwn GLoad.l0 ty9 rfl opd0,
                  ok_lookup ko9 ty4 un115 rfl opd0 opd1, trivial⟩ (by kernel_rfl) ?_
              clear hAt; intro a w hAt; replace hAt : At B h0 (mkG [(29, fV (Rep.slice GLoad.rep) x0.Items), (30, fV r_i64 (List.length x0.Items : Int)), (31, fV r_i64 s3.2), (42, fV Rep.bool (mget false s3.1 v4.Name))]) (mkO [(4, mapE kStr Rep.bool s3.1), (6, boxE 24 GLoad.rep v4)]) F 52 a w := hAt; refine then_n ?_; refine wp_if hAt (by rfl) ?_ ?_
              · intro hb8; have H := iteT hb8 H; refine wp_seq ?_
                refine reg [⟨fV r_i64 5, [], [], []⟩] [2] [] hAt
                    ⟨ok_assign rfl opdI, trivial⟩ (by kernel_rfl) ?_
                clear hAt; intro a w hAt; replace hAt : At B h0 (mkG [(2, fV r_i64 5)]) (mkO []) F 52 a w := hAt; refine then_n ?_; refine wp_ret ?_; refine then_r ?_; refine blk_r ?_; refine then_r ?_
                cases H
                exact ⟨ret_ne, rfl, hAt.pick [2] []⟩
              · intro hb8; have H := iteF hb8 H; refine wp_skip ?_; refine then_n ?_; refine wp_seq ?_
                refine reg [⟨fCp 4, [], [], []⟩,
                    ⟨fOff 6 0, [], [], [(6, none)]⟩,
                    ⟨fV Rep.str v4.Name, [], [(44, some 1)], [(6, none)]⟩,
                    ⟨Fact.triv, [(4, some (mapE kStr Rep.bool (mset s3.1 v4.Name true)))], [(43, some 0), (45, some 2)], [(4, none)]⟩] [29, 30, 31] [4, 6] hAt
                    ⟨ok_cp rfl,
                    ok_fieldOwn fo24_0 rfl,
                    ok_loadOwn GLoad.l0 ty9 rfl opd0,
                    ok_mapUpdate ko9 un115 rfl (.inl rfl) opd0 opd1 opdB, trivial⟩ (by kernel_rfl) ?_
                clear hAt; intro a w hAt; replace hAt : At B h0 (mkG [(29, fV (Rep.slice GLoad.rep) x0.Items), (30, fV r_i64 (List.length x0.Items : Int)), (31, fV r_i64 s3.2)]) (mkO [(4, mapE kStr Rep.bool (mset s3.1 v4.Name true)), (6, boxE 24 GLoad.rep v4)]) F 52 a w := hAt; refine then_n ?_; refine wp_seq ?_; obtain ⟨v6, hv6, H⟩ := bindE H
                refine reg [⟨fV GLoad.rep v4, [], [], [(6, none)]⟩,
                    ⟨fV r_i64 v6, [], [(46, some 0)], []⟩,
                    ⟨fV r_i64 v6, [], [(47, some 1)], []⟩] [7, 29, 30, 31] [4] hAt
                    ⟨ok_loadBox ty24 rfl,
                    ok_call (ok_f_hull_checkNumbers N v4 0 _ hv6) Try.func38 (by kernel_rfl) (by kernel_rfl) rfl ⟨opd0, ⟨opdI, trivial⟩⟩,
                    ok_assign rfl opd0, trivial⟩ (by kernel_rfl) ?_
                clear hAt; intro a w hAt; replace hAt : At B h0 (mkG [(7, fV r_i64 v6), (29, fV (Rep.slice GLoad.rep) x0.Items), (30, fV r_i64 (List.length x0.Items : Int)), (31, fV r_i64 s3.2)]) (mkO [(4, mapE kStr Rep.bool (mset s3.1 v4.Name true))]) F 52 a w := hAt; refine then_n ?_; refine wp_seq ?_
                refine reg [⟨fV r_i64 v6, [], [(7, none)], []⟩,
                    ⟨fV Rep.bool (cmpI .neq v6 0), [], [(48, some 0)], []⟩] [7, 29, 30, 31, 49] [4] hAt
                    ⟨ok_move rfl opd0,
                    ok_cmp (op := .neq) (by simp) rfl rfl opd0 opdI, trivial⟩ (by kernel_rfl) ?_
                clear hAt; intro a w hAt; replace hAt : At B h0 (mkG [(7, fV r_i64 v6), (29, fV (Rep.slice GLoad.rep) x0.Items), (30, fV r_i64 (List.length x0.Items : Int)), (31, fV r_i64 s3.2), (49, fV Rep.bool (cmpI .neq v6 0))]) (mkO [(4, mapE kStr Rep.bool (mset s3.1 v4.Name true))]) F 52 a w := hAt; refine then_n ?_; refine wp_if hAt (by rfl) ?_ ?_
                · intro hb7; have H := iteT hb7 H; refine wp_seq ?_
                  refine reg [⟨fV r_i64 v6, [], [(7, none)], []⟩,
                      ⟨fV r_i64 v6, [], [(50, some 0)], []⟩] [2] [] hAt
                      ⟨ok_move rfl opd0,
                      ok_assign rfl opd0, trivial⟩ (by kernel_rfl) ?_
                  clear hAt; intro a w hAt; replace hAt : At B h0 (mkG [(2, fV r_i64 v6)]) (mkO []) F 52 a w := hAt; refine then_n ?_; refine wp_ret ?_; refine blk_r ?_; refine then_r ?_
                  cases H
                  exact ⟨ret_ne, rfl, hAt.pick [2] []⟩
                · intro hb7; have H := iteF hb7 H; refine wp_skip ?_; refine blk_n ?_; refine then_n ?_
                  refine reg [⟨fV r_i64 (IntKind.i64.wrap (s3.2 + 1)), [], [(31, none)], []⟩,
                      ⟨fV r_i64 (IntKind.i64.wrap (s3.2 + 1)), [], [(51, some 0)], []⟩] [29, 30, 31] [4] hAt
                      ⟨ok_add rfl opd0 opdI,
                      ok_move rfl opd0, trivial⟩ (by kernel_rfl) ?_
                  clear hAt; intro a w hAt; replace hAt : At B h0 (mkG [(29, fV (Rep.slice GLoad.rep) x0.Items), (30, fV r_i64 (List.length x0.Items : Int)), (31, fV r_i64 (IntKind.i64.wrap (s3.2 + 1)))]) (mkO [(4, mapE kStr Rep.bool (mset s3.1 v4.Name true))]) F 52 a w := hAt
                  cases H
                  exact ⟨rfl, hAt.pick [29, 30, 31] [4]⟩
          · intro hb10; have H := iteF hb10 H; refine wp_exit ?_; refine then_x ?_
            cases H
            exact ⟨ex_ne, rfl, hAt.pick [] []⟩
        · exact hAt.pick [29, 30, 31] [4]
        · clear hAt; intro e a w hp
          cases o11 with
          | inl l13 =>
            rw [Sum.elim_inl] at H; obtain ⟨rfl, hAt⟩ := hp; refine blk_eq ?_; refine then_n ?_; refine wp_seq ?_
            refine reg [⟨fV r_i64 0, [], [], []⟩] [2] [] hAt
                ⟨ok_assign rfl opdI, trivial⟩ (by kernel_rfl) ?_
            clear hAt; intro a w hAt; replace hAt : At B h0 (mkG [(2, fV r_i64 0)]) (mkO []) F 52 a w := hAt; refine then_n ?_; refine wp_ret ?_
            cases H
            exact ret1 rfl (rv_tmp rfl rfl) hAt
          | inr r14 =>
            rw [Sum.elim_inr] at H; replace hp := hp; obtain ⟨rfl, hAt⟩ := hp; refine blk_r ?_; refine then_r ?_
            cases H
            exact ret1 rfl (rv_tmp rfl rfl) hAt
theorem ok_f_hull_Check (N : Nat) (x0 : GShip) (r : Int) (H : f_hull_Check N x0 = some r) : FnOk Try.prog 11 [fV GShip.rep x0] (fV r_i64 r) := by
  unfold f_hull_Check at H; refine fn_enter Try.func11 rfl rfl (by kernel_rfl) ?_; intro κ B h0 F a w hAt; refine wp_seq ?_
  refine reg [⟨fRef GShip.rep x0, [], [(0, none)], []⟩,
      ⟨fV r_i64 0, [], [], []⟩] [1] [] hAt
      ⟨ok_box rfl opd0,
      ok_assign rfl opdI, trivial⟩ (by kernel_rfl) ?_
  clear hAt; intro a w hAt; replace hAt : At B h0 (mkG [(1, fRef GShip.rep x0)]) (mkO []) F 43 a w := hAt; refine then_n ?_; refine wp_seq ?_; refine wp_seq ?_; obtain ⟨v1, hv1, H⟩ := bindE H
  refine reg [⟨fRef Rep.str x0.Name, [], [(1, none)], []⟩,
      ⟨fV Rep.str x0.Name, [], [(7, some 0)], []⟩,
      ⟨fV Rep.bool v1, [], [(8, some 1)], []⟩,
      ⟨fV Rep.bool (!v1), [], [(9, some 2)], []⟩] [1, 10] [] hAt
      ⟨ok_field GShip.l0 fo27_0 rfl opd0,
      ok_load ty9 rfl opd0,
      ok_call (ok_f_hull_isName N x0.Name _ hv1) Try.func33 (by kernel_rfl) (by kernel_rfl) rfl ⟨opd0, trivial⟩,
      ok_not rfl opd0, trivial⟩ (by kernel_rfl) ?_
  clear hAt; intro a w hAt; replace hAt : At B h0 (mkG [(1, fRef GShip.rep x0), (10, fV Rep.bool (!v1))]) (mkO []) F 43 a w := hAt; refine then_n ?_; refine wp_if hAt (by rfl) ?_ ?_
  · intro hb17; have H := iteT hb17 H; refine wp_seq ?_
    refine reg [⟨fV r_i64 4, [], [], []⟩] [2] [] hAt
        ⟨ok_assign rfl opdI, trivial⟩ (by kernel_rfl) ?_
    clear hAt; intro a w hAt; replace hAt : At B h0 (mkG [(2, fV r_i64 4)]) (mkO []) F 43 a w := hAt; refine then_n ?_; refine wp_ret ?_; refine then_r ?_
    cases H
    exact ret1 rfl (rv_tmp rfl rfl) hAt
  · intro hb17; have H := iteF hb17 H; refine wp_skip ?_; refine then_n ?_; refine wp_seq ?_; refine wp_seq ?_; obtain ⟨v2, hv2, H⟩ := bindE H; obtain ⟨v3, hv3, H⟩ := bindE H
    refine reg [⟨fRef r_i64 x0.Length, [], [(1, none)], []⟩,
        ⟨fV r_i64 x0.Length, [], [(11, some 0)], []⟩,
        ⟨fV Rep.bool v2, [], [(12, some 1)], []⟩,
        ⟨fV Rep.bool (!v2), [], [(13, some 2)], []⟩,
        ⟨fV Rep.bool (!v2), [], [(14, some 3)], []⟩,
        ⟨Fact.when ((!(!v2)) = true) (fRef (Rep.slice GStation.rep) x0.Stations), [], [(15, some 4), (1, none)], []⟩,
        ⟨Fact.when ((!(!v2)) = true) (fV (Rep.slice GStation.rep) x0.Stations), [], [(15, some 4), (16, some 5)], []⟩,
        ⟨Fact.when ((!(!v2)) = true) (fV r_i64 (List.length x0.Stations : Int)), [], [(15, some 4), (17, some 6)], []⟩,
        ⟨Fact.when ((!(!v2)) = true) (fV Rep.bool v3), [], [(15, some 4), (18, some 7)], []⟩,
        ⟨Fact.when ((!(!v2)) = true) (fV Rep.bool (!v3)), [], [(15, some 4), (19, some 8)], []⟩,
        ⟨fV Rep.bool ((!v2) || (!v3)), [], [(15, some 4), (20, some 9)], []⟩] [1, 21] [] hAt
        ⟨ok_field GShip.l1 fo27_1 rfl opd0,
        ok_load ty3 rfl opd0,
        ok_call (ok_f_hull_between N x0.Length 1 1000000 _ hv2) Try.func34 (by kernel_rfl) (by kernel_rfl) rfl ⟨opd0, ⟨opdI, ⟨opdI, trivial⟩⟩⟩,
        ok_not rfl opd0,
        ok_move rfl opd0,
        obl_tf rfl rfl rfl rfl rfl rfl rfl (fun hg => ok_field GShip.l2 fo27_2 rfl opd1),
        obl_tf rfl rfl rfl rfl rfl rfl rfl (fun hg => ok_load ty22 rfl (opd1.on hg)),
        obl_tf rfl rfl rfl rfl rfl rfl rfl (fun hg => ok_len un22 rfl (opd1.on hg)),
        obl_tf rfl rfl rfl rfl rfl rfl rfl (fun hg => ok_call (ok_f_hull_between N (List.length x0.Stations : Int) 1 40 _ (iteT hg hv3)) Try.func34 (by kernel_rfl) (by kernel_rfl) rfl ⟨(opd1.on hg), ⟨opdI, ⟨opdI, trivial⟩⟩⟩),
        obl_tf rfl rfl rfl rfl rfl rfl rfl (fun hg => ok_not rfl (opd1.on hg)),
        ok_or rfl opd0 (fun e => (opd1.on (notT e))), trivial⟩ (by kernel_rfl) ?_
    clear hAt; intro a w hAt; replace hAt : At B h0 (mkG [(1, fRef GShip.rep x0), (21, fV Rep.bool ((!v2) || (!v3)))]) (mkO []) F 43 a w := hAt; refine then_n ?_; refine wp_if hAt (by rfl) ?_ ?_
    · intro hb16; have H := iteT hb16 H; refine wp_seq ?_
      refine reg [⟨fV r_i64 2, [], [], []⟩] [2] [] hAt
          ⟨ok_assign rfl opdI, trivial⟩ (by kernel_rfl) ?_
      clear hAt; intro a w hAt; replace hAt : At B h0 (mkG [(2, fV r_i64 2)]) (mkO []) F 43 a w := hAt; refine then_n ?_; refine wp_ret ?_; refine then_r ?_
      cases H
      exact ret1 rfl (rv_tmp rfl rfl) hAt
    · intro hb16; have H := iteF hb16 H; refine wp_skip ?_; refine then_n ?_; refine wp_seq ?_
      refine reg [⟨fV (Rep.ptr GStation.rep) (none : Option GStation), [], [], []⟩] [1, 3] [] hAt
          ⟨ok_assign rfl opdP0, trivial⟩ (by kernel_rfl) ?_
      clear hAt; intro a w hAt; replace hAt : At B h0 (mkG [(1, fRef GShip.rep x0), (3, fV (Rep.ptr GStation.rep) (none : Option GStation))]) (mkO []) F 43 a w := hAt; refine then_n ?_; refine wp_seq ?_; refine wp_seq ?_
      refine reg [⟨fRef (Rep.slice GStation.rep) x0.Stations, [], [(1, none)], []⟩,
          ⟨fV (Rep.slice GStation.rep) x0.Stations, [], [(22, some 0)], []⟩,
          ⟨fV r_i64 (List.length x0.Stations : Int), [], [(23, some 1)], []⟩,
          ⟨fV r_i64 0, [], [], []⟩] [1, 3, 23, 24, 25] [] hAt
          ⟨ok_field GShip.l2 fo27_2 rfl opd0,
          ok_load ty22 rfl opd0,
          ok_len un22 rfl opd0,
          ok_move rfl opdI, trivial⟩ (by kernel_rfl) ?_
      clear hAt; intro a w hAt; replace hAt : At B h0 (mkG [(1, fRef GShip.rep x0), (3, fV (Rep.ptr GStation.rep) (none : Option GStation)), (23, fV (Rep.slice GStation.rep) x0.Stations), (24, fV r_i64 (List.length x0.Stations : Int)), (25, fV r_i64 0)]) (mkO []) F 43 a w := hAt; refine then_n ?_; refine wp_block ?_; obtain ⟨o10, hl11, H⟩ := bindE H
      refine wp_mono (wp_loopN (f := f_hull_Check_L1 N x0) (fun (s4 : ((Option GStation) × Int)) a w => At B h0 (mkG [(1, fRef GShip.rep x0), (3, fV (Rep.ptr GStation.rep) s4.1), (23, fV (Rep.slice GStation.rep) x0.Stations), (24, fV r_i64 (List.length x0.Stations : Int)), (25, fV r_i64 s4.2)]) (mkO []) F 43 a w) (fun o e a w => (Sum.elim (fun v => e = .exit 0 ∧ At B h0 (mkG [(1, fRef GShip.rep x0)]) (mkO []) F 43 a w) (fun v => e = .ret ∧ At B h0 (mkG [(2, fV r_i64 v)]) (mkO []) F 43 a w)) o) ?_ N ((none : Option GStation), 0) o10 _ _ hl11 ?_) ?_
      · clear H hAt hl11; intro s4 r15 a w H hAt; unfold f_hull_Check_L1 at H; refine wp_seq ?_
        refine reg [⟨fV Rep.bool (cmpI .lss s4.2 (List.length x0.Stations : Int)), [], [(25, none), (24, none)], []⟩] [1, 3, 23, 24, 25, 26] [] hAt
            ⟨ok_cmp (op := .lss) (by simp) rfl rfl opd0 opd1, trivial⟩ (by kernel_rfl) ?_
        clear hAt; intro a w hAt; replace hAt : At B h0 (mkG [(1, fRef GShip.rep x0), (3, fV (Rep.ptr GStation.rep) s4.1), (23, fV (Rep.slice GStation.rep) x0.Stations), (24, fV r_i64 (List.length x0.Stations : Int)), (25, fV r_i64 s4.2), (26, fV Rep.bool (cmpI .lss s4.2 (List.length x0.Stations : Int)))]) (mkO []) F 43 a w := hAt; refine then_n ?_; refine wp_seq ?_; refine wp_if hAt (by rfl) ?_ ?_
        · intro hb9; have H := iteT hb9 H; refine wp_skip ?_; refine then_n ?_; refine wp_seq ?_; refine wp_block ?_; refine wp_seq ?_; obtain ⟨v5, hv5, H⟩ := bindE H
          refine reg [⟨fV r_i64 s4.2, [], [(25, none)], []⟩,
              ⟨fRef GStation.rep v5, [], [(23, none), (25, none)], []⟩,
              ⟨fV GStation.rep v5, [], [(28, some 1)], []⟩,
              ⟨Fact.triv, [(5, some (boxE 71 GStation.rep (⟨0, 0, [], []⟩ : GStation)))], [], []⟩,
              ⟨fV r_i64 s4.2, [], [(27, some 0)], []⟩,
              ⟨Fact.triv, [(5, some (boxE 71 GStation.rep v5))], [(29, some 2)], [(5, some 3)]⟩] [1, 3, 4, 23, 24, 25] [5] hAt
              ⟨ok_move rfl opd0,
              ok_index ty71 un22 hv5 rfl opd0 opd1,
              ok_load ty71 rfl opd0,
              ok_alloc ty71 rfl rfl,
              ok_assign rfl opd0,
              ok_storeBox ty71 rfl rfl opd0, trivial⟩ (by kernel_rfl) ?_
          clear hAt; intro a w hAt; replace hAt : At B h0 (mkG [(1, fRef GShip.rep x0), (3, fV (Rep.ptr GStation.rep) s4.1), (4, fV r_i64 s4.2), (23, fV (Rep.slice GStation.rep) x0.Stations), (24, fV r_i64 (List.length x0.Stations : Int)), (25, fV r_i64 s4.2)]) (mkO [(5, boxE 71 GStation.rep v5)]) F 43 a w := hAt; refine then_n ?_; refine wp_seq ?_; refine wp_seq ?_; obtain ⟨v6, hv6, H⟩ := bindE H
          refine reg [⟨fV GStation.rep v5, [], [], [(5, none)]⟩,
              ⟨fV (Rep.ptr GStation.rep) s4.1, [], [(3, none)], []⟩,
              ⟨fV r_i64 v6, [], [(30, some 0), (31, some 1)], []⟩,
              ⟨fV r_i64 v6, [], [(32, some 2)], []⟩] [1, 4, 6, 23, 24, 25] [] hAt
              ⟨ok_loadBox ty71 rfl,
              ok_move rfl opd0,
              ok_call (ok_f_hull_checkStation N v5 s4.1 _ hv6) Try.func35 (by kernel_rfl) (by kernel_rfl) rfl ⟨opd0, ⟨opd1, trivial⟩⟩,
              ok_assign rfl opd0, trivial⟩ (by kernel_rfl) ?_
          clear hAt; intro a w hAt; replace hAt : At B h0 (mkG [(1, fRef GShip.rep x0), (4, fV r_i64 s4.2), (6, fV r_i64 v6), (23, fV (Rep.slice GStation.rep) x0.Stations), (24, fV r_i64 (List.length x0.Stations : Int)), (25, fV r_i64 s4.2)]) (mkO []) F 43 a w := hAt; refine then_n ?_; refine wp_seq ?_
          refine reg [⟨fV r_i64 v6, [], [(6, none)], []⟩,
              ⟨fV Rep.bool (cmpI .neq v6 0), [], [(33, some 0)], []⟩] [1, 4, 6, 23, 24, 25, 34] [] hAt
              ⟨ok_move rfl opd0,
              ok_cmp (op := .neq) (by simp) rfl rfl opd0 opdI, trivial⟩ (by kernel_rfl) ?_
          clear hAt; intro a w hAt; replace hAt : At B h0 (mkG [(1, fRef GShip.rep x0), (4, fV r_i64 s4.2), (6, fV r_i64 v6), (23, fV (Rep.slice GStation.rep) x0.Stations), (24, fV r_i64 (List.length x0.Stations : Int)), (25, fV r_i64 s4.2), (34, fV Rep.bool (cmpI .neq v6 0))]) (mkO []) F 43 a w := hAt; refine then_n ?_; refine wp_if hAt (by rfl) ?_ ?_
          · intro hb8; have H := iteT hb8 H; refine wp_seq ?_
            refine reg [⟨fV r_i64 v6, [], [(6, none)], []⟩,
                ⟨fV r_i64 v6, [], [(35, some 0)], []⟩] [2] [] hAt
                ⟨ok_move rfl opd0,
                ok_assign rfl opd0, trivial⟩ (by kernel_rfl) ?_
            clear hAt; intro a w hAt; replace hAt : At B h0 (mkG [(2, fV r_i64 v6)]) (mkO []) F 43 a w := hAt; refine then_n ?_; refine wp_ret ?_; refine then_r ?_; refine blk_r ?_; refine then_r ?_
            cases H
            exact ⟨ret_ne, rfl, hAt.pick [2] []⟩
          · intro hb8; have H := iteF hb8 H; refine wp_skip ?_; refine then_n ?_; obtain ⟨v7, hv7, H⟩ := bindE H
            refine reg [⟨fRef (Rep.slice GStation.rep) x0.Stations, [], [(1, none)], []⟩,
                ⟨fV (Rep.slice GStation.rep) x0.Stations, [], [(36, some 0)], []⟩,
                ⟨fV r_i64 s4.2, [], [(4, none)], []⟩,
                ⟨fRef GStation.rep v7, [], [(37, some 1), (38, some 2)], []⟩,
                ⟨fV (Rep.ptr GStation.rep) (some v7), [], [(39, some 3)], []⟩] [1, 3, 23, 24, 25] [] hAt
                ⟨ok_field GShip.l2 fo27_2 rfl opd0,
                ok_load ty22 rfl opd0,
                ok_move rfl opd0,
                ok_index ty71 un22 hv7 rfl opd0 opd1,
                ok_assign rfl (opdP opd0), trivial⟩ (by kernel_rfl) ?_
            clear hAt; intro a w hAt; replace hAt : At B h0 (mkG [(1, fRef GShip.rep x0), (3, fV (Rep.ptr GStation.rep) (some v7)), (23, fV (Rep.slice GStation.rep) x0.Stations), (24, fV r_i64 (List.length x0.Stations : Int)), (25, fV r_i64 s4.2)]) (mkO []) F 43 a w := hAt; refine blk_n ?_; refine then_n ?_
            refine reg [⟨fV r_i64 (IntKind.i64.wrap (s4.2 + 1)), [], [(25, none)], []⟩,
                ⟨fV r_i64 (IntKind.i64.wrap (s4.2 + 1)), [], [(40, some 0)], []⟩] [1, 3, 23, 24, 25] [] hAt
                ⟨ok_add rfl opd0 opdI,
                ok_move rfl opd0, trivial⟩ (by kernel_rfl) ?_
            clear hAt; intro a w hAt; replace hAt : At B h0 (mkG [(1, fRef GShip.rep x0), (3, fV (Rep.ptr GStation.rep) (some v7)), (23, fV (Rep.slice GStation.rep) x0.Stations), (24, fV r_i64 (List.length x0.Stations : Int)), (25, fV r_i64 (IntKind.i64.wrap (s4.2 + 1)))]) (mkO []) F 43 a w := hAt
            cases H
            exact ⟨rfl, hAt.pick [1, 3, 23, 24, 25] []⟩
        · intro hb9; have H := iteF hb9 H; refine wp_exit ?_; refine then_x ?_
          cases H
          exact ⟨ex_ne, rfl, hAt.pick [1] []⟩
      · exact hAt.pick [1, 3, 23, 24, 25] []
      · clear hAt; intro e a w hp
        cases o10 with
        | inl l12 =>
          rw [Sum.elim_inl] at H; obtain ⟨rfl, hAt⟩ := hp; refine blk_eq ?_; refine then_n ?_; refine wp_seq ?_; obtain ⟨v14, hv14, H⟩ := bindE H
          refine reg [⟨fV GShip.rep x0, [], [(1, none)], []⟩,
              ⟨fV r_i64 v14, [], [(41, some 0)], []⟩,
              ⟨fV r_i64 v14, [], [(42, some 1)], []⟩] [2] [] hAt
              ⟨ok_load ty27 rfl opd0,
              ok_call (ok_f_hull_checkLoads N x0 _ hv14) Try.func36 (by kernel_rfl) (by kernel_rfl) rfl ⟨opd0, trivial⟩,
              ok_assign rfl opd0, trivial⟩ (by kernel_rfl) ?_
          clear hAt; intro a w hAt; replace hAt : At B h0 (mkG [(2, fV r_i64 v14)]) (mkO []) F 43 a w := hAt; refine then_n ?_; refine wp_ret ?_
          cases H
          exact ret1 rfl (rv_tmp rfl rfl) hAt
        | inr r13 =>
          rw [Sum.elim_inr] at H; replace hp := hp; obtain ⟨rfl, hAt⟩ := hp; refine blk_r ?_; refine then_r ?_
          cases H
          exact ret1 rfl (rv_tmp rfl rfl) hAt
theorem ok_f_hull_checkDensity (N : Nat) (x0 : Int) (r : Int) (H : f_hull_checkDensity N x0 = some r) : FnOk Try.prog 77 [fV r_i64 x0] (fV r_i64 r) := by
  unfold f_hull_checkDensity at H; refine fn_enter Try.func77 rfl rfl (by kernel_rfl) ?_; intro κ B h0 F a w hAt; refine wp_seq ?_
  refine reg [⟨fV r_i64 0, [], [], []⟩] [0] [] hAt
      ⟨ok_assign rfl opdI, trivial⟩ (by kernel_rfl) ?_
  clear hAt; intro a w hAt; replace hAt : At B h0 (mkG [(0, fV r_i64 x0)]) (mkO []) F 6 a w := hAt; refine then_n ?_; refine wp_seq ?_; refine wp_seq ?_; obtain ⟨v1, hv1, H⟩ := bindE H
  refine reg [⟨fV r_i64 x0, [], [(0, none)], []⟩,
      ⟨fV Rep.bool v1, [], [(3, some 0)], []⟩,
      ⟨fV Rep.bool (!v1), [], [(4, some 1)], []⟩] [5] [] hAt
      ⟨ok_move rfl opd0,
      ok_call (ok_f_hull_between N x0 900 1100 _ hv1) Try.func34 (by kernel_rfl) (by kernel_rfl) rfl ⟨opd0, ⟨opdI, ⟨opdI, trivial⟩⟩⟩,
      ok_not rfl opd0, trivial⟩ (by kernel_rfl) ?_
  clear hAt; intro a w hAt; replace hAt : At B h0 (mkG [(5, fV Rep.bool (!v1))]) (mkO []) F 6 a w := hAt; refine then_n ?_; refine wp_if hAt (by rfl) ?_ ?_
  · intro hb2; have H := iteT hb2 H; refine wp_seq ?_
    refine reg [⟨fV r_i64 2, [], [], []⟩] [2] [] hAt
        ⟨ok_assign rfl opdI, trivial⟩ (by kernel_rfl) ?_
    clear hAt; intro a w hAt; replace hAt : At B h0 (mkG [(2, fV r_i64 2)]) (mkO []) F 6 a w := hAt; refine then_n ?_; refine wp_ret ?_; refine then_r ?_
    cases H
    exact ret1 rfl (rv_tmp rfl rfl) hAt
  · intro hb2; have H := iteF hb2 H; refine wp_skip ?_; refine then_n ?_; refine wp_seq ?_
    refine reg [⟨fV r_i64 0, [], [], []⟩] [2] [] hAt
        ⟨ok_assign rfl opdI, trivial⟩ (by kernel_rfl) ?_
    clear hAt; intro a w hAt; replace hAt : At B h0 (mkG [(2, fV r_i64 0)]) (mkO []) F 6 a w := hAt; refine then_n ?_; refine wp_ret ?_
    cases H
    exact ret1 rfl (rv_tmp rfl rfl) hAt
theorem ok_f_hull_floated (N : Nat) (x0 : GShip) (x1 : Int) (r : Int) (H : f_hull_floated N x0 x1 = some r) : FnOk Try.prog 39 [fV GShip.rep x0, fV r_i64 x1] (fV r_i64 r) := by
  unfold f_hull_floated at H; refine fn_enter Try.func39 rfl rfl (by kernel_rfl) ?_; intro κ B h0 F a w hAt; refine wp_seq ?_
  refine reg [⟨fRef GShip.rep x0, [], [(0, none)], []⟩,
      ⟨fV r_i64 0, [], [], []⟩] [1, 2] [] hAt
      ⟨ok_box rfl opd0,
      ok_assign rfl opdI, trivial⟩ (by kernel_rfl) ?_
  clear hAt; intro a w hAt; replace hAt : At B h0 (mkG [(1, fV r_i64 x1), (2, fRef GShip.rep x0)]) (mkO []) F 13 a w := hAt; refine then_n ?_; refine wp_seq ?_; refine wp_seq ?_; obtain ⟨v1, hv1, H⟩ := bindE H
  refine reg [⟨fV GShip.rep x0, [], [(2, none)], []⟩,
      ⟨fV r_i64 v1, [], [(6, some 0)], []⟩,
      ⟨fV r_i64 v1, [], [(7, some 1)], []⟩] [1, 5] [] hAt
      ⟨ok_load ty27 rfl opd0,
      ok_call (ok_f_hull_Check N x0 _ hv1) Try.func11 (by kernel_rfl) (by kernel_rfl) rfl ⟨opd0, trivial⟩,
      ok_assign rfl opd0, trivial⟩ (by kernel_rfl) ?_
  clear hAt; intro a w hAt; replace hAt : At B h0 (mkG [(1, fV r_i64 x1), (5, fV r_i64 v1)]) (mkO []) F 13 a w := hAt; refine then_n ?_; refine wp_seq ?_
  refine reg [⟨fV r_i64 v1, [], [(5, none)], []⟩,
      ⟨fV Rep.bool (cmpI .neq v1 0), [], [(8, some 0)], []⟩] [1, 5, 9] [] hAt
      ⟨ok_move rfl opd0,
      ok_cmp (op := .neq) (by simp) rfl rfl opd0 opdI, trivial⟩ (by kernel_rfl) ?_
  clear hAt; intro a w hAt; replace hAt : At B h0 (mkG [(1, fV r_i64 x1), (5, fV r_i64 v1), (9, fV Rep.bool (cmpI .neq v1 0))]) (mkO []) F 13 a w := hAt; refine then_n ?_; refine wp_if hAt (by rfl) ?_ ?_
  · intro hb3; have H := iteT hb3 H; refine wp_seq ?_
    refine reg [⟨fV r_i64 v1, [], [(5, none)], []⟩,
        ⟨fV r_i64 v1, [], [(10, some 0)], []⟩] [4] [] hAt
        ⟨ok_move rfl opd0,
        ok_assign rfl opd0, trivial⟩ (by kernel_rfl) ?_
    clear hAt; intro a w hAt; replace hAt : At B h0 (mkG [(4, fV r_i64 v1)]) (mkO []) F 13 a w := hAt; refine then_n ?_; refine wp_ret ?_; refine then_r ?_
    cases H
    exact ret1 rfl (rv_tmp rfl rfl) hAt
  · intro hb3; have H := iteF hb3 H; refine wp_skip ?_; refine then_n ?_; refine wp_seq ?_; obtain ⟨v2, hv2, H⟩ := bindE H
    refine reg [⟨fV r_i64 x1, [], [(1, none)], []⟩,
        ⟨fV r_i64 v2, [], [(11, some 0)], []⟩,
        ⟨fV r_i64 v2, [], [(12, some 1)], []⟩] [4] [] hAt
        ⟨ok_move rfl opd0,
        ok_call (ok_f_hull_checkDensity N x1 _ hv2) Try.func77 (by kernel_rfl) (by kernel_rfl) rfl ⟨opd0, trivial⟩,
        ok_assign rfl opd0, trivial⟩ (by kernel_rfl) ?_
    clear hAt; intro a w hAt; replace hAt : At B h0 (mkG [(4, fV r_i64 v2)]) (mkO []) F 13 a w := hAt; refine then_n ?_; refine wp_ret ?_
    cases H
    exact ret1 rfl (rv_tmp rfl rfl) hAt
theorem ok_f_exact_natural (N : Nat) (x0 : Int) (r : (List Int)) (H : f_exact_natural N x0 = some r) : FnOk Try.prog 108 [fV r_u64 x0] (fV (Rep.slice r_u16) r) := by
  unfold f_exact_natural at H; refine fn_enter Try.func108 rfl rfl (by kernel_rfl) ?_; intro κ B h0 F a w hAt; refine wp_seq ?_
  refine reg [⟨fV (Rep.slice r_u16) [], [(2, some (tipE 35 r_u16.sz))], [], []⟩] [0] [] hAt
      ⟨ok_nilTip rfl (.inl rfl), trivial⟩ (by kernel_rfl) ?_
  clear hAt; intro a w hAt; replace hAt : At B h0 (mkG [(0, fV r_u64 x0)]) (mkO []) F 14 a w := hAt; refine then_n ?_; refine wp_seq ?_
  refine reg [⟨fV (Rep.slice r_u16) [], [(3, some (tipE 35 r_u16.sz))], [], []⟩] [0, 3] [3] hAt
      ⟨ok_nilTip rfl (.inl rfl), trivial⟩ (by kernel_rfl) ?_
  clear hAt; intro a w hAt; replace hAt : At B h0 (mkG [(0, fV r_u64 x0), (3, fV (Rep.slice r_u16) [])]) (mkO [(3, tipE 35 r_u16.sz)]) F 14 a w := hAt; refine then_n ?_; refine wp_seq ?_; refine wp_block ?_; obtain ⟨o5, hl6, H⟩ := bindE H
  refine wp_mono (wp_loopN (f := f_exact_natural_L1 N) (fun (s1 : (Int × (List Int))) a w => At B h0 (mkG [(0, fV r_u64 s1.1), (3, fV (Rep.slice r_u16) s1.2)]) (mkO [(3, tipE 35 r_u16.sz)]) F 14 a w) (fun o e a w => (fun v => e = .exit 0 ∧ At B h0 (mkG [(3, fV (Rep.slice r_u16) v)]) (mkO [(3, tipE 35 r_u16.sz)]) F 14 a w) o) ?_ N (x0, []) o5 _ _ hl6 ?_) ?_
  · clear H hAt hl6; intro s1 r7 a w H hAt; unfold f_exact_natural_L1 at H; refine wp_seq ?_; refine wp_seq ?_
    refine reg [⟨fV r_u64 s1.1, [], [(0, none)], []⟩,
        ⟨fV Rep.bool (cmpI .gtr s1.1 0), [], [(4, some 0)], []⟩] [0, 3, 5] [3] hAt
        ⟨ok_move rfl opd0,
        ok_cmp (op := .gtr) (by simp) rfl rfl opd0 opdI, trivial⟩ (by kernel_rfl) ?_
    clear hAt; intro a w hAt; replace hAt : At B h0 (mkG [(0, fV r_u64 s1.1), (3, fV (Rep.slice r_u16) s1.2), (5, fV Rep.bool (cmpI .gtr s1.1 0))]) (mkO [(3, tipE 35 r_u16.sz)]) F 14 a w := hAt; refine then_n ?_; refine wp_if hAt (by rfl) ?_ ?_
    · intro hb4; have H := iteT hb4 H; refine wp_skip ?_; refine then_n ?_; refine wp_seq ?_; refine wp_block ?_; obtain ⟨v2, hv2, H⟩ := bindE H
      refine reg [⟨fV (Rep.slice r_u16) s1.2, [(3, none), (8, some (tipE 35 r_u16.sz))], [(3, none)], [(3, none)]⟩,
          ⟨fV r_u64 s1.1, [], [(0, none)], []⟩,
          ⟨fV r_u16 (IntKind.u16.wrap s1.1), [], [(9, some 1)], []⟩,
          ⟨fV (Rep.slice r_u16) [(IntKind.u16.wrap s1.1)], [], [(10, some 2)], []⟩,
          ⟨fV (Rep.slice r_u16) v2, [(8, none), (12, some (tipE 35 r_u16.sz))], [(8, some 0), (11, some 3)], [(8, some 0)]⟩,
          ⟨fV (Rep.slice r_u16) v2, [(12, none), (3, some (tipE 35 r_u16.sz))], [(12, some 4)], [(12, some 4)]⟩] [0, 3] [3] hAt
          ⟨ok_moveOwn rfl rfl (.inl rfl) opd0,
          ok_move rfl opd0,
          ok_conv un109 un35 rfl opd0,
          ok_buildSlice ty35 un28 rfl rfl (fillC (Lens.arr _ _ 0 (by decide)) rfl opd0 fillN),
          ok_append hv2 el35 un28 rfl rfl rfl opd0 opd1,
          ok_moveOwn rfl rfl (.inr rfl) opd0, trivial⟩ (by kernel_rfl) ?_
      clear hAt; intro a w hAt; replace hAt : At B h0 (mkG [(0, fV r_u64 s1.1), (3, fV (Rep.slice r_u16) v2)]) (mkO [(3, tipE 35 r_u16.sz)]) F 14 a w := hAt; refine blk_n ?_; refine then_n ?_; obtain ⟨v3, hv3, H⟩ := bindE H
      refine reg [⟨fV r_u64 s1.1, [], [(0, none)], []⟩,
          ⟨fV r_u64 v3, [], [(6, some 0)], []⟩,
          ⟨fV r_u64 v3, [], [(7, some 1)], []⟩] [0, 3] [3] hAt
          ⟨ok_move rfl opd0,
          ok_shr hv3 rfl opd0 opdI,
          ok_assign rfl opd0, trivial⟩ (by kernel_rfl) ?_
      clear hAt; intro a w hAt; replace hAt : At B h0 (mkG [(0, fV r_u64 v3), (3, fV (Rep.slice r_u16) v2)]) (mkO [(3, tipE 35 r_u16.sz)]) F 14 a w := hAt
      cases H
      exact ⟨rfl, hAt.pick [0, 3] [3]⟩
    · intro hb4; have H := iteF hb4 H; refine wp_exit ?_; refine then_x ?_
      cases H
      exact ⟨ex_ne, rfl, hAt.pick [3] [3]⟩
  · exact hAt.pick [0, 3] [3]
  · clear hAt; intro e a w hp; obtain ⟨rfl, hAt⟩ := hp; refine blk_eq ?_; refine then_n ?_; refine wp_seq ?_
    refine reg [⟨fV (Rep.slice r_u16) o5, [], [(3, none)], []⟩,
        ⟨fV (Rep.slice r_u16) o5, [], [(13, some 0)], []⟩] [2] [] hAt
        ⟨ok_move rfl opd0,
        ok_assign rfl opd0, trivial⟩ (by kernel_rfl) ?_
    clear hAt; intro a w hAt; replace hAt : At B h0 (mkG [(2, fV (Rep.slice r_u16) o5)]) (mkO []) F 14 a w := hAt; refine then_n ?_; refine wp_ret ?_
    cases H
    exact ret1 rfl (rv_tmp rfl rfl) hAt
theorem ok_f_exact_trim (N : Nat) (x0 : (List Int)) (r : (List Int)) (H : f_exact_trim N x0 = some r) : FnOk Try.prog 71 [fV (Rep.slice r_u16) x0] (fV (Rep.slice r_u16) r) := by
  unfold f_exact_trim at H; refine fn_enter Try.func71 rfl rfl (by kernel_rfl) ?_; intro κ B h0 F a w hAt; refine wp_seq ?_
  refine reg [⟨fV (Rep.slice r_u16) [], [(2, some (tipE 35 r_u16.sz))], [], []⟩] [0] [] hAt
      ⟨ok_nilTip rfl (.inl rfl), trivial⟩ (by kernel_rfl) ?_
  clear hAt; intro a w hAt; replace hAt : At B h0 (mkG [(0, fV (Rep.slice r_u16) x0)]) (mkO []) F 21 a w := hAt; refine then_n ?_; refine wp_seq ?_; refine wp_block ?_; obtain ⟨o5, hl6, H⟩ := bindE H
  refine wp_mono (wp_loopN (f := f_exact_trim_L1 N) (fun (s1 : (List Int)) a w => At B h0 (mkG [(0, fV (Rep.slice r_u16) s1)]) (mkO []) F 21 a w) (fun o e a w => (fun v => e = .exit 0 ∧ At B h0 (mkG [(0, fV (Rep.slice r_u16) v)]) (mkO []) F 21 a w) o) ?_ N x0 o5 _ _ hl6 ?_) ?_
  · clear H hAt hl6; intro s1 r7 a w H hAt; unfold f_exact_trim_L1 at H; refine wp_seq ?_; refine wp_seq ?_; obtain ⟨v2, hv2, H⟩ := bindE H
    refine reg [⟨fV (Rep.slice r_u16) s1, [], [(0, none)], []⟩,
        ⟨fV r_i64 (List.length s1 : Int), [], [(3, some 0)], []⟩,
        ⟨fV Rep.bool (cmpI .gtr (List.length s1 : Int) 0), [], [(4, some 1)], []⟩,
        ⟨fV Rep.bool (cmpI .gtr (List.length s1 : Int) 0), [], [(5, some 2)], []⟩,
        ⟨Fact.when ((cmpI .gtr (List.length s1 : Int) 0) = true) (fV (Rep.slice r_u16) s1), [], [(6, some 3), (0, none)], []⟩,
        ⟨Fact.when ((cmpI .gtr (List.length s1 : Int) 0) = true) (fV (Rep.slice r_u16) s1), [], [(6, some 3), (0, none)], []⟩,
        ⟨Fact.when ((cmpI .gtr (List.length s1 : Int) 0) = true) (fV r_i64 (List.length s1 : Int)), [], [(6, some 3), (8, some 5)], []⟩,
        ⟨Fact.when ((cmpI .gtr (List.length s1 : Int) 0) = true) (fV r_i64 (IntKind.i64.wrap ((List.length s1 : Int) - 1))), [], [(6, some 3), (9, some 6)], []⟩,
        ⟨Fact.when ((cmpI .gtr (List.length s1 : Int) 0) = true) (fRef r_u16 v2), [], [(6, some 3), (7, some 4), (10, some 7)], []⟩,
        ⟨Fact.when ((cmpI .gtr (List.length s1 : Int) 0) = true) (fV r_u16 v2), [], [(6, some 3), (11, some 8)], []⟩,
        ⟨Fact.when ((cmpI .gtr (List.length s1 : Int) 0) = true) (fV Rep.bool (cmpI .eql v2 0)), [], [(6, some 3), (12, some 9)], []⟩,
        ⟨fV Rep.bool ((cmpI .gtr (List.length s1 : Int) 0) && (cmpI .eql v2 0)), [], [(6, some 3), (13, some 10)], []⟩] [0, 14] [] hAt
        ⟨ok_move rfl opd0,
        ok_len un28 rfl opd0,
        ok_cmp (op := .gtr) (by simp) rfl rfl opd0 opdI,
        ok_move rfl opd0,
        obl_tt rfl rfl rfl rfl rfl rfl rfl (fun hg => ok_move rfl opd1),
        obl_tt rfl rfl rfl rfl rfl rfl rfl (fun hg => ok_move rfl opd1),
        obl_tt rfl rfl rfl rfl rfl rfl rfl (fun hg => ok_len un28 rfl (opd1.on hg)),
        obl_tt rfl rfl rfl rfl rfl rfl rfl (fun hg => ok_sub rfl (opd1.on hg) opdI),
        obl_tt rfl rfl rfl rfl rfl rfl rfl (fun hg => ok_index ty35 un28 (iteT hg hv2) rfl (opd1.on hg) (opd2.on hg)),
        obl_tt rfl rfl rfl rfl rfl rfl rfl (fun hg => ok_load ty35 rfl (opd1.on hg)),
        obl_tt rfl rfl rfl rfl rfl rfl rfl (fun hg => ok_cmp (op := .eql) (by simp) rfl rfl (opd1.on hg) opdI),
        ok_and rfl opd0 (fun e => (opd1.on e)), trivial⟩ (by kernel_rfl) ?_
    clear hAt; intro a w hAt; replace hAt : At B h0 (mkG [(0, fV (Rep.slice r_u16) s1), (14, fV Rep.bool ((cmpI .gtr (List.length s1 : Int) 0) && (cmpI .eql v2 0)))]) (mkO []) F 21 a w := hAt; refine then_n ?_; refine wp_if hAt (by rfl) ?_ ?_
    · intro hb4; have H := iteT hb4 H; refine wp_skip ?_; refine then_n ?_; refine wp_block ?_; obtain ⟨v3, hv3, H⟩ := bindE H
      refine reg [⟨fV (Rep.slice r_u16) s1, [], [(0, none)], []⟩,
          ⟨fV (Rep.slice r_u16) s1, [], [(0, none)], []⟩,
          ⟨fV r_i64 (List.length s1 : Int), [], [(16, some 1)], []⟩,
          ⟨fV r_i64 (IntKind.i64.wrap ((List.length s1 : Int) - 1)), [], [(17, some 2)], []⟩,
          ⟨fV (Rep.slice r_u16) v3, [], [(15, some 0), (18, some 3)], []⟩,
          ⟨fV (Rep.slice r_u16) v3, [], [(19, some 4)], []⟩] [0] [] hAt
          ⟨ok_move rfl opd0,
          ok_move rfl opd0,
          ok_len un28 rfl opd0,
          ok_sub rfl opd0 opdI,
          ok_slice hv3 ty35 un28 rfl opd0 bndN (bndS opd1),
          ok_assign rfl opd0, trivial⟩ (by kernel_rfl) ?_
      clear hAt; intro a w hAt; replace hAt : At B h0 (mkG [(0, fV (Rep.slice r_u16) v3)]) (mkO []) F 21 a w := hAt; refine blk_n ?_
      cases H
      exact ⟨rfl, hAt.pick [0] []⟩
    · intro hb4; have H := iteF hb4 H; refine wp_exit ?_; refine then_x ?_
      cases H
      exact ⟨ex_ne, rfl, hAt.pick [0] []⟩
  · exact hAt.pick [0] []
  · clear hAt; intro e a w hp; obtain ⟨rfl, hAt⟩ := hp; refine blk_eq ?_; refine then_n ?_; refine wp_seq ?_
    refine reg [⟨fV (Rep.slice r_u16) o5, [], [(0, none)], []⟩,
        ⟨fV (Rep.slice r_u16) o5, [], [(20, some 0)], []⟩] [2] [] hAt
        ⟨ok_move rfl opd0,
        ok_assign rfl opd0, trivial⟩ (by kernel_rfl) ?_
    clear hAt; intro a w hAt; replace hAt : At B h0 (mkG [(2, fV (Rep.slice r_u16) o5)]) (mkO []) F 21 a w := hAt; refine then_n ?_; refine wp_ret ?_
    cases H
    exact ret1 rfl (rv_tmp rfl rfl) hAt
theorem ok_f_slices_Cloneluint16_uint16 (N : Nat) (x0 : (List Int)) (r : (List Int)) (H : f_slices_Cloneluint16_uint16 N x0 = some r) : FnOk Try.prog 117 [fV (Rep.slice r_u16) x0] (fV (Rep.slice r_u16) r) := by
  unfold f_slices_Cloneluint16_uint16 at H; refine fn_enter Try.func117 rfl rfl (by kernel_rfl) ?_; intro κ B h0 F a w hAt; refine wp_seq ?_
  refine reg [⟨fV (Rep.slice r_u16) [], [(2, some (tipE 35 r_u16.sz))], [], []⟩] [0] [] hAt
      ⟨ok_nilTip rfl (.inl rfl), trivial⟩ (by kernel_rfl) ?_
  clear hAt; intro a w hAt; replace hAt : At B h0 (mkG [(0, fV (Rep.slice r_u16) x0)]) (mkO []) F 8 a w := hAt; refine then_n ?_; refine wp_seq ?_; refine wp_seq ?_
  refine reg [⟨fV (Rep.slice r_u16) x0, [], [(0, none)], []⟩,
      ⟨fNil x0, [], [(3, some 0)], []⟩] [0, 4] [] hAt
      ⟨ok_move rfl opd0,
      ok_isNil un28 rfl opd0, trivial⟩ (by kernel_rfl) ?_
  clear hAt; intro a w hAt; replace hAt : At B h0 (mkG [(0, fV (Rep.slice r_u16) x0), (4, fNil x0)]) (mkO []) F 8 a w := hAt; refine then_n ?_; refine wp_ifNil hAt (by rfl) ?_ ?_
  · intro hb2; refine wp_seq ?_
    refine reg [⟨fV (Rep.slice r_u16) [], [(2, some (tipE 35 r_u16.sz))], [], []⟩] [2] [2] hAt
        ⟨ok_nilTip rfl (.inl rfl), trivial⟩ (by kernel_rfl) ?_
    clear hAt; intro a w hAt; replace hAt : At B h0 (mkG [(2, fV (Rep.slice r_u16) [])]) (mkO [(2, tipE 35 r_u16.sz)]) F 8 a w := hAt; refine then_n ?_; refine wp_ret ?_; refine then_r ?_; rw [hb2] at H
    cases H
    exact ret1 rfl (rv_tmp rfl rfl) hAt
  · refine wp_skip ?_; refine then_n ?_; refine wp_seq ?_; obtain ⟨v1, hv1, H⟩ := bindE H
    refine reg [⟨fV (Rep.slice r_u16) ([] : (List Int)), [(5, some (tipE 35 r_u16.sz))], [], []⟩,
        ⟨fV (Rep.slice r_u16) x0, [], [(0, none)], []⟩,
        ⟨fV (Rep.slice r_u16) v1, [(5, none), (7, some (tipE 35 r_u16.sz))], [(5, some 0), (6, some 1)], [(5, some 0)]⟩,
        ⟨fV (Rep.slice r_u16) v1, [(7, none), (2, some (tipE 35 r_u16.sz))], [(7, some 2)], [(7, some 2)]⟩] [2] [2] hAt
        ⟨ok_buildTip ty35 un28 rfl rfl rfl fillN,
        ok_move rfl opd0,
        ok_append hv1 el35 un28 rfl rfl rfl opd0 opd1,
        ok_moveOwn rfl rfl (.inr rfl) opd0, trivial⟩ (by kernel_rfl) ?_
    clear hAt; intro a w hAt; replace hAt : At B h0 (mkG [(2, fV (Rep.slice r_u16) v1)]) (mkO [(2, tipE 35 r_u16.sz)]) F 8 a w := hAt; refine then_n ?_; refine wp_ret ?_
    cases H
    exact ret1 rfl (rv_tmp rfl rfl) hAt
theorem ok_f_exact_signed (N : Nat) (x0 : Bool) (x1 : (List Int)) (r : GInt) (H : f_exact_signed N x0 x1 = some r) : FnOk Try.prog 98 [fV Rep.bool x0, fV (Rep.slice r_u16) x1] (fV GInt.rep r) := by
  unfold f_exact_signed at H; refine fn_enter Try.func98 rfl rfl (by kernel_rfl) ?_; intro κ B h0 F a w hAt; refine wp_seq ?_
  refine reg [⟨Fact.triv, [(4, some (boxE 30 GInt.rep (⟨false, []⟩ : GInt)))], [], []⟩] [0, 1] [4] hAt
      ⟨ok_alloc ty30 rfl rfl, trivial⟩ (by kernel_rfl) ?_
  clear hAt; intro a w hAt; replace hAt : At B h0 (mkG [(0, fV Rep.bool x0), (1, fV (Rep.slice r_u16) x1)]) (mkO [(4, boxE 30 GInt.rep (⟨false, []⟩ : GInt))]) F 15 a w := hAt; refine then_n ?_; refine wp_seq ?_; obtain ⟨v1, hv1, H⟩ := bindE H
  refine reg [⟨fV (Rep.slice r_u16) x1, [], [(1, none)], []⟩,
      ⟨fV (Rep.slice r_u16) v1, [], [(5, some 0)], []⟩,
      ⟨fV (Rep.slice r_u16) v1, [], [(6, some 1)], []⟩] [0, 1] [4] hAt
      ⟨ok_move rfl opd0,
      ok_call (ok_f_exact_trim N x1 _ hv1) Try.func71 (by kernel_rfl) (by kernel_rfl) rfl ⟨opd0, trivial⟩,
      ok_assign rfl opd0, trivial⟩ (by kernel_rfl) ?_
  clear hAt; intro a w hAt; replace hAt : At B h0 (mkG [(0, fV Rep.bool x0), (1, fV (Rep.slice r_u16) v1)]) (mkO [(4, boxE 30 GInt.rep (⟨false, []⟩ : GInt))]) F 15 a w := hAt; refine then_n ?_; refine wp_seq ?_; refine wp_seq ?_
  refine reg [⟨fV (Rep.slice r_u16) v1, [], [(1, none)], []⟩,
      ⟨fV r_i64 (List.length v1 : Int), [], [(7, some 0)], []⟩,
      ⟨fV Rep.bool (cmpI .eql (List.length v1 : Int) 0), [], [(8, some 1)], []⟩] [0, 1, 9] [4] hAt
      ⟨ok_move rfl opd0,
      ok_len un28 rfl opd0,
      ok_cmp (op := .eql) (by simp) rfl rfl opd0 opdI, trivial⟩ (by kernel_rfl) ?_
  clear hAt; intro a w hAt; replace hAt : At B h0 (mkG [(0, fV Rep.bool x0), (1, fV (Rep.slice r_u16) v1), (9, fV Rep.bool (cmpI .eql (List.length v1 : Int) 0))]) (mkO [(4, boxE 30 GInt.rep (⟨false, []⟩ : GInt))]) F 15 a w := hAt; refine then_n ?_; refine wp_if hAt (by rfl) ?_ ?_
  · intro hb3; have H := iteT hb3 H; refine wp_seq ?_
    refine reg [⟨fV GInt.rep (⟨false, []⟩ : GInt), [], [], []⟩,
        ⟨Fact.triv, [(4, some (boxE 30 GInt.rep (⟨false, []⟩ : GInt)))], [(10, some 0)], [(4, none)]⟩] [] [4] hAt
        ⟨ok_build ty30 rfl pl30 rfl fillN,
        ok_storeBox ty30 rfl rfl opd0, trivial⟩ (by kernel_rfl) ?_
    clear hAt; intro a w hAt; replace hAt : At B h0 (mkG []) (mkO [(4, boxE 30 GInt.rep (⟨false, []⟩ : GInt))]) F 15 a w := hAt; refine then_n ?_; refine wp_ret ?_; refine then_r ?_
    cases H
    exact ret1 rfl (rv_cell ty30 rfl) hAt
  · intro hb3; have H := iteF hb3 H; refine wp_skip ?_; refine then_n ?_; refine wp_seq ?_; obtain ⟨v2, hv2, H⟩ := bindE H
    refine reg [⟨fV Rep.bool x0, [], [(0, none)], []⟩,
        ⟨fV (Rep.slice r_u16) v1, [], [(1, none)], []⟩,
        ⟨fV (Rep.slice r_u16) v2, [], [(12, some 1)], []⟩,
        ⟨fV GInt.rep (⟨x0, v2⟩ : GInt), [], [(11, some 0), (13, some 2)], []⟩,
        ⟨Fact.triv, [(4, some (boxE 30 GInt.rep (⟨x0, v2⟩ : GInt)))], [(14, some 3)], [(4, none)]⟩] [] [4] hAt
        ⟨ok_move rfl opd0,
        ok_move rfl opd0,
        ok_call (ok_f_slices_Cloneluint16_uint16 N v1 _ hv2) Try.func117 (by kernel_rfl) (by kernel_rfl) rfl ⟨opd0, trivial⟩,
        ok_build ty30 rfl pl30 rfl (fillC GInt.l0 rfl opd0 (fillC GInt.l1 rfl opd1 fillN)),
        ok_storeBox ty30 rfl rfl opd0, trivial⟩ (by kernel_rfl) ?_
    clear hAt; intro a w hAt; replace hAt : At B h0 (mkG []) (mkO [(4, boxE 30 GInt.rep (⟨x0, v2⟩ : GInt))]) F 15 a w := hAt; refine then_n ?_; refine wp_ret ?_
    cases H
    exact ret1 rfl (rv_cell ty30 rfl) hAt
end Go.KB
