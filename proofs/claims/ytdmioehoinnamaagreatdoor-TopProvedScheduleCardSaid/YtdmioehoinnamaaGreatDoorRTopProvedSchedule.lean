/- The statement, from the plain law. No condition. -/
import Derived.Test.YtdmioehoinnamaaGreatDoorCards
import Derived.Test.YtdmioehoinnamaaGreatDoorTie
import Derived.Test.YtdmioehoinnamaaGreatDoorKRowL
import Derived.SevenTiedAt
import Derived.Test.YtdmioehoinnamaaGreatDoorJTopProvedSchedule
import Derived.Test.YtdmioehoinnamaaGreatDoorLTopProvedSchedule
import Derived.Test.YtdmioehoinnamaaGreatDoorFaTopProvedSchedule
import Derived.Test.YtdmioehoinnamaaGreatDoorFbTopProvedSchedule
import Derived.Test.YtdmioehoinnamaaGreatDoorFcTopProvedSchedule
import Derived.WalkKit
import Derived.ProofKit
import Derived.OpenShut
namespace Go.Proofs.YtdmioehoinnamaaGreatDoor.TopProvedScheduleRow
open Go.KB Go.ChangeShapes Go.WideShapes Go.ChangeAt Go.RowKit
set_option maxRecDepth 100000
set_option maxHeartbeats 4000000
theorem laidOut : laidOutB Tryz.prog = true := cfb
theorem own : ownKnob Tryz.prog.godebug = none := by kernel_rfl
theorem okl (x : GWork × (List GSlot) × Int × Unit) (h : GWork.ok x.1 ∧ (gL GSlot.ok) x.2.1 ∧ (gI .u8) x.2.2.1 ∧ True) : FnOk Tryz.prog 3 [fV GWork.rep x.1, fV (Rep.slice GSlot.rep) x.2.1, fV r_u8 x.2.2.1] (fV Rep.bool true) :=
  ok_f_top_TopProvedSchedule _ x.1 x.2.1 x.2.2.1 _ (law_TopProvedSchedule x.1 x.2.1 x.2.2.1 h.1 h.2.1 h.2.2.1)
theorem glob {W : World} (h : laidMetH Tryz.prog Rows.topProvedScheduleRow.laid W) (hs : W.ShapedOpen Tryz.prog) : gN ≤ W.heap.size ∧ gP fun b => W.heap[b]? := by
  rw [MakeChecks.laidMetH_plain _ _ _ (by kernel_rfl)] at h
  have _ := hs
  have k : GF W := ⟨Lib.tabIs_of_head gn_tab (show (Tryz.prog.globals[0]?).map (·.type) = some 174 by kernel_rfl) (Tryz.underlying174) (Tryz.underlying167) (by kernel_rfl) (by kernel_rfl) h.tail.tail⟩
  refine gOf ?_ k
  exact var_lt gn_tab k.tab
theorem reads (os : Os) {H : Type} (enc : TypeId × Value → H) : DataW.whole enc Tryz.prog ((World.laidAll Tryz.prog os Rows.topProvedScheduleRow.laid).forCall (fun _ _ => 0) ⟨#[], #[(.agg GWork.rep.zc.toArray), (.slice none 0 0), (.int .u8 0)], []⟩).memory Tryz.f3.params.toList Rows.topProvedScheduleSpec.vars false #[(.agg GWork.rep.zc.toArray), (.slice none 0 0), (.int .u8 0)].toList 8 = some ([.agg [.nil, .nil, .nil, .nil, .nil, .lit (.int .i64 0), .lit (.int .i64 0), .lit (.int .i64 0), .lit (.int .i64 0)], .nil, .lit (.int .u8 0)], [], []) := by kernel_rfl
theorem lifted (os : Os) (started : os.Started) (X : Type) (enc : TypeId × Value → X) (F : Stop.Interp) :
    ReturnsInHanded {} Tryz.checked os 3 .any ((OpenSpec.ofChange Rows.topProvedScheduleSpec).preRow enc Tryz.prog Tryz.f3 Rows.topProvedScheduleRow.domain false Rows.topProvedScheduleRow.laid) (((OpenSpec.ofChange Rows.topProvedScheduleSpec).at F).post enc Tryz.prog Tryz.f3 false true false false) := by
  refine returnsInHanded_of_row (C := Tryz.checked) (s := OpenSpec.ofChange Rows.topProvedScheduleSpec) own started (by kernel_rfl) Tryz.func3
    (witness_laid (C := Tryz.checked) (s := OpenSpec.ofChange Rows.topProvedScheduleSpec) #[(.agg GWork.rep.zc.toArray), (.slice none 0 0), (.int .u8 0)] 8 (by kernel_rfl) (by kernel_rfl) (by kernel_rfl) (by kernel_rfl) (reads os enc) (by kernel_rfl) (fun k hk => by cases hk) (by kernel_rfl) (by kernel_rfl) (by kernel_rfl)) ?_
  intro W base args ds gs before hval hW _ _ hsz hL hsh _
  refine law_post laidOut (Params.cons (OpensW.of op28) (by kernel_rfl) (by kernel_rfl) (of_decide_eq_true (by kernel_rfl)) (Params.cons (OpensW.of op29) (by kernel_rfl) (by kernel_rfl) (of_decide_eq_true (by kernel_rfl)) (Params.cons (OpensW.of op5) (by kernel_rfl) (by kernel_rfl) (of_decide_eq_true (by kernel_rfl)) Params.nil))) okl rfl Tryz.underlying4 rfl ?_ hval hW hsz (glob hL hsh)
  intro X ds h
  match ds, h with
  | [d0, d1, d2], _ => exact ⟨rfl, rfl, rfl⟩
theorem cf : joinedFacts Tryz.checked.prog 3 Tryz.f3 Rows.topProvedScheduleSpec Rows.topProvedScheduleRow = true := by
  unfold joinedFacts
  rw [cfb, cf0, cf1, cf2, cf3, cf4, cf5, cf6, cf7, cf8, cf9, cfa]
  kernel_rfl
theorem fnd : Tryz.checked.prog.funcNamed Rows.topProvedScheduleRow.func = some 3 := by kernel_rfl
theorem ins : Tryz.f3.isInstance Tryz.checked.prog Rows.topProvedScheduleRow.origin Rows.topProvedScheduleRow.targs := of_decide_eq_true (by kernel_rfl)
theorem wra : Tryz.f3.isWrapper Tryz.checked.prog Rows.topProvedScheduleRow.wrapper Rows.topProvedScheduleRow.mainSum := by
  unfold Func.isWrapper; first | (rw [if_pos (by decide +kernel)]; kernel_rfl) | (rw [if_neg (by decide +kernel)]; exact ⟨rfl, rfl⟩)
theorem over : Rows.topProvedScheduleRow.holds Tryz.pinned (OpenSpec.ofChange Rows.topProvedScheduleSpec) :=
  OpenClaim.holds_of_cond 3 Tryz.f3 rfl rfl rfl rfl rfl rfl rfl ⟨rfl, rfl, rfl, rfl, rfl⟩ rfl rfl rfl rfl rfl fnd Tryz.func3 cf ins wra
    (fun os started X enc _ F => by rw [OpenClaim.pre_eq_preRow]; exact lifted os started X enc F)
theorem plain (f : FuncId) (fn : Func) (hf : Tryz.pinned.checked.prog.funcNamed Rows.topProvedScheduleRow.func = some f) (hfn : Tryz.pinned.checked.prog.funcs[f]? = some fn) :
    false = Tryz.pinned.checked.prog.looks [] ∧ ∀ (j : Nat) t, fn.params[j]? = some t → Tryz.pinned.checked.prog.wantsStandIn t = false := by
  obtain rfl : f = 3 := Option.some.inj (fnd.symm.trans hf) |>.symm
  obtain rfl : fn = Tryz.f3 := (Option.some.inj (Tryz.func3.symm.trans hfn)).symm
  refine ⟨by kernel_rfl, fun j t ht => ?_⟩
  rw [Tryz.params3] at ht
  have hm : t ∈ [28, 29, 5] := by simpa using Array.mem_of_getElem? ht
  have hall : ([28, 29, 5].all fun u => !Tryz.prog.wantsStandIn u) = true := by kernel_rfl
  exact (show Tryz.prog.wantsStandIn t = false by simpa using List.all_eq_true.1 hall t hm)
end Go.Proofs.YtdmioehoinnamaaGreatDoor.TopProvedScheduleRow
namespace Go.Proofs.YtdmioehoinnamaaGreatDoor
theorem provedTopProvedSchedule : Rows.TopProvedScheduleCardSaid :=
  Claim7.holds_tied_plain_at .later [] _ _ _ _ TopProvedScheduleRow.over (fun _ h => by cases h) (by kernel_rfl) (fun _ h => by cases h) topProvedSchedule_row_tie rfl ⟨rfl, rfl⟩ (by kernel_rfl) rfl TopProvedScheduleRow.plain (by kernel_rfl)
#print axioms provedTopProvedSchedule
end Go.Proofs.YtdmioehoinnamaaGreatDoor
