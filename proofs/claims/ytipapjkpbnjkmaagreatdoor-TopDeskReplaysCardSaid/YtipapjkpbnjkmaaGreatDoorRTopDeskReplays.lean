/- The statement, from the plain law. No condition. -/
import Derived.Test.YtipapjkpbnjkmaaGreatDoorCards
import Derived.Test.YtipapjkpbnjkmaaGreatDoorTie
import Derived.Test.YtipapjkpbnjkmaaGreatDoorKRowL
import Derived.SevenTiedAt
import Derived.Test.YtipapjkpbnjkmaaGreatDoorJTopDeskReplays
import Derived.Test.YtipapjkpbnjkmaaGreatDoorLTopDeskReplays
import Derived.Test.YtipapjkpbnjkmaaGreatDoorFaTopDeskReplays
import Derived.Test.YtipapjkpbnjkmaaGreatDoorFbTopDeskReplays
import Derived.Test.YtipapjkpbnjkmaaGreatDoorFcTopDeskReplays
import Derived.WalkKit
import Derived.ProofKit
import Derived.OpenShut
namespace Go.Proofs.YtipapjkpbnjkmaaGreatDoor.TopDeskReplaysRow
open Go.KB Go.ChangeShapes Go.WideShapes Go.ChangeAt Go.RowKit
set_option maxRecDepth 100000
set_option maxHeartbeats 4000000
theorem laidOut : laidOutB Tryz.prog = true := cfb
theorem own : ownKnob Tryz.prog.godebug = none := by kernel_rfl
theorem okl (x : (List Str) × Str × Unit) (h : (gL gS) x.1 ∧ gS x.2.1 ∧ True) : FnOk Tryz.prog 3 [fV (Rep.slice Rep.str) x.1, fV Rep.str x.2.1] (fV Rep.bool true) :=
  ok_f_top_TopDeskReplays _ x.1 x.2.1 _ (law_TopDeskReplays x.1 x.2.1 h.1 h.2.1)
theorem glob {W : World} (h : laidMetH Tryz.prog Rows.topDeskReplaysRow.laid W) (hs : W.ShapedOpen Tryz.prog) : gN ≤ W.heap.size ∧ gP fun b => W.heap[b]? := by
  rw [MakeChecks.laidMetH_plain _ _ _ (by kernel_rfl)] at h
  have k : GF W := ⟨Lib.tabIs_of_head gn_tab (show (Tryz.prog.globals[3]?).map (·.type) = some 163 by kernel_rfl) (Tryz.underlying163) (Tryz.underlying146) (by kernel_rfl) (by kernel_rfl) h.tail.tail, laid_iface h.tail.tail.tail.tail.tail gn_es (show (Tryz.prog.globals[1]?).map (·.type) = some 71 by kernel_rfl) (show Tryz.prog.underlying 71 = some (.interface (Tryz.prog.methodsAt 71)) by kernel_rfl), laid_iface h.tail.tail.tail.tail gn_er (show (Tryz.prog.globals[2]?).map (·.type) = some 71 by kernel_rfl) (show Tryz.prog.underlying 71 = some (.interface (Tryz.prog.methodsAt 71)) by kernel_rfl), (Tryz.laysSplit.s1_3 W hs)⟩
  refine gOf ?_ k
  exact var_lt gn_tab k.tab
theorem reads (os : Os) {H : Type} (enc : TypeId × Value → H) : DataW.whole enc Tryz.prog ((World.laidAll Tryz.prog os Rows.topDeskReplaysRow.laid).forCall (fun _ _ => 0) ⟨#[], #[(.slice none 0 0), (.string ⟨#[]⟩)], []⟩).memory Tryz.f3.params.toList Rows.topDeskReplaysSpec.vars false #[(.slice none 0 0), (.string ⟨#[]⟩)].toList 8 = some ([.nil, .lit (.string [])], [], []) := by kernel_rfl
theorem lifted (os : Os) (started : os.Started) (X : Type) (enc : TypeId × Value → X) (F : Stop.Interp) :
    ReturnsInHanded {} Tryz.checked os 3 .any ((OpenSpec.ofChange Rows.topDeskReplaysSpec).preRow enc Tryz.prog Tryz.f3 Rows.topDeskReplaysRow.domain false Rows.topDeskReplaysRow.laid) (((OpenSpec.ofChange Rows.topDeskReplaysSpec).at F).post enc Tryz.prog Tryz.f3 false true false false) := by
  refine returnsInHanded_of_row (C := Tryz.checked) (s := OpenSpec.ofChange Rows.topDeskReplaysSpec) own started (by kernel_rfl) Tryz.func3
    (witness_laid (C := Tryz.checked) (s := OpenSpec.ofChange Rows.topDeskReplaysSpec) #[(.slice none 0 0), (.string ⟨#[]⟩)] 8 (by kernel_rfl) (by kernel_rfl) (by kernel_rfl) (by kernel_rfl) (reads os enc) (by kernel_rfl) (fun k hk => by cases hk) (by kernel_rfl) (by kernel_rfl) (by kernel_rfl)) ?_
  intro W base args ds gs before hval hW _ _ hsz hL hsh _
  refine law_post laidOut (Params.cons (OpensW.of op22) (by kernel_rfl) (by kernel_rfl) (of_decide_eq_true (by kernel_rfl)) (Params.cons (OpensW.of op9) (by kernel_rfl) (by kernel_rfl) (of_decide_eq_true (by kernel_rfl)) Params.nil)) okl rfl Tryz.underlying4 rfl ?_ hval hW hsz (glob hL hsh)
  intro X ds h
  match ds, h with
  | [d0, d1], _ => exact ⟨rfl, rfl, rfl⟩
theorem cf : joinedFacts Tryz.checked.prog 3 Tryz.f3 Rows.topDeskReplaysSpec Rows.topDeskReplaysRow = true := by
  unfold joinedFacts
  rw [cfb, cf0, cf1, cf2, cf3, cf4, cf5, cf6, cf7, cf8, cf9, cfa]
  kernel_rfl
theorem fnd : Tryz.checked.prog.funcNamed Rows.topDeskReplaysRow.func = some 3 := by kernel_rfl
theorem ins : Tryz.f3.isInstance Tryz.checked.prog Rows.topDeskReplaysRow.origin Rows.topDeskReplaysRow.targs := of_decide_eq_true (by kernel_rfl)
theorem wra : Tryz.f3.isWrapper Tryz.checked.prog Rows.topDeskReplaysRow.wrapper Rows.topDeskReplaysRow.mainSum := by
  unfold Func.isWrapper; first | (rw [if_pos (by decide +kernel)]; kernel_rfl) | (rw [if_neg (by decide +kernel)]; exact ⟨rfl, rfl⟩)
theorem over : Rows.topDeskReplaysRow.holds Tryz.pinned (OpenSpec.ofChange Rows.topDeskReplaysSpec) :=
  OpenClaim.holds_of_cond 3 Tryz.f3 rfl rfl rfl rfl rfl rfl rfl ⟨rfl, rfl, rfl, rfl, rfl⟩ rfl rfl rfl rfl rfl fnd Tryz.func3 cf ins wra
    (fun os started X enc _ F => by rw [OpenClaim.pre_eq_preRow]; exact lifted os started X enc F)
theorem plain (f : FuncId) (fn : Func) (hf : Tryz.pinned.checked.prog.funcNamed Rows.topDeskReplaysRow.func = some f) (hfn : Tryz.pinned.checked.prog.funcs[f]? = some fn) :
    true = Tryz.pinned.checked.prog.looks [] ∧ ∀ (j : Nat) t, fn.params[j]? = some t → Tryz.pinned.checked.prog.wantsStandIn t = false := by
  obtain rfl : f = 3 := Option.some.inj (fnd.symm.trans hf) |>.symm
  obtain rfl : fn = Tryz.f3 := (Option.some.inj (Tryz.func3.symm.trans hfn)).symm
  refine ⟨by kernel_rfl, fun j t ht => ?_⟩
  rw [Tryz.params3] at ht
  have hm : t ∈ [22, 9] := by simpa using Array.mem_of_getElem? ht
  have hall : ([22, 9].all fun u => !Tryz.prog.wantsStandIn u) = true := by kernel_rfl
  exact (show Tryz.prog.wantsStandIn t = false by simpa using List.all_eq_true.1 hall t hm)
end Go.Proofs.YtipapjkpbnjkmaaGreatDoor.TopDeskReplaysRow
namespace Go.Proofs.YtipapjkpbnjkmaaGreatDoor
theorem provedTopDeskReplays : Rows.TopDeskReplaysCardSaid :=
  Claim7.holds_tied_plain_at .later [] _ _ _ _ TopDeskReplaysRow.over (fun _ h => by cases h) (by kernel_rfl) (fun _ h => by cases h) topDeskReplays_row_tie rfl ⟨rfl, rfl⟩ (by kernel_rfl) rfl TopDeskReplaysRow.plain (by kernel_rfl)
#print axioms provedTopDeskReplays
end Go.Proofs.YtipapjkpbnjkmaaGreatDoor
