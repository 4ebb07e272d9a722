/- The statement, from the plain law. No condition. -/
import Derived.Test.YtblfmjackdhajaaRows
import Derived.Test.YtblfmjackdhajaaJTopBothEdits
import Derived.Test.YtblfmjackdhajaaLTopBothEdits
import Derived.Test.YtblfmjackdhajaaFaTopBothEdits
import Derived.Test.YtblfmjackdhajaaFbTopBothEdits
import Derived.Test.YtblfmjackdhajaaFcTopBothEdits
import Derived.WalkKit
import Derived.ProofKit
import Derived.OpenShut
namespace Go.Proofs.Ytblfmjackdhajaa.TopBothEditsRow
open Go.KB Go.ChangeShapes Go.WideShapes Go.ChangeAt Go.RowKit
set_option maxRecDepth 100000
set_option maxHeartbeats 4000000
theorem laidOut : laidOutB Try.prog = true := cfb
theorem own : ownKnob Try.prog.godebug = none := by kernel_rfl
theorem okl (x : (List GSetting) × (List GSetting) × (List GSetting) × Unit) (h : (gL GSetting.ok) x.1 ∧ (gL GSetting.ok) x.2.1 ∧ (gL GSetting.ok) x.2.2.1 ∧ True) : FnOk Try.prog 3 [fV (Rep.slice GSetting.rep) x.1, fV (Rep.slice GSetting.rep) x.2.1, fV (Rep.slice GSetting.rep) x.2.2.1] (fV Rep.bool true) :=
  ok_f_top_TopBothEdits _ x.1 x.2.1 x.2.2.1 _ (law_TopBothEdits x.1 x.2.1 x.2.2.1 h.1 h.2.1 h.2.2.1)
theorem lifted (os : Os) (started : os.Started) (X : Type) (enc : TypeId × Value → X) :
    ReturnsInHanded {} Try.checked os 3 .any (Rows.topBothEditsSpec.pre6 enc Try.prog Try.f3 Rows.topBothEditsRow.domain false) (Rows.topBothEditsSpec.post enc Try.prog Try.f3 false true false false) := by
  refine KB.returnsInHanded_of_sized (enc := enc) (C := Try.checked) own started (by kernel_rfl) Try.func3
    (ChangeSpec.witness6 (enc := enc) (C := Try.checked) false ⟨#[], #[(.slice none 0 0), (.slice none 0 0), (.slice none 0 0)], []⟩ 8 (by kernel_rfl) (by kernel_rfl) (by kernel_rfl) (by kernel_rfl)) ?_
  intro W base args ds gs before hval hW hsz
  refine law_post laidOut (Params.cons (OpensW.of op22) (by kernel_rfl) (by kernel_rfl) (of_decide_eq_true (by kernel_rfl)) (Params.cons (OpensW.of op22) (by kernel_rfl) (by kernel_rfl) (of_decide_eq_true (by kernel_rfl)) (Params.cons (OpensW.of op22) (by kernel_rfl) (by kernel_rfl) (of_decide_eq_true (by kernel_rfl)) Params.nil))) okl rfl Try.underlying4 rfl ?_ hval hW hsz
  intro X ds h
  match ds, h with
  | [d0, d1, d2], _ => exact ⟨rfl, rfl, rfl⟩
theorem cf : joinedFacts Try.checked.prog 3 Try.f3 Rows.topBothEditsSpec Rows.topBothEditsRow = true := by
  unfold joinedFacts
  rw [cfb, cf0, cf1, cf2, cf3, cf4, cf5, cf6, cf7, cf8, cf9, cfa]
  kernel_rfl
theorem fnd : Try.checked.prog.funcNamed Rows.topBothEditsRow.func = some 3 := by kernel_rfl
theorem ins : Try.f3.isInstance Try.checked.prog Rows.topBothEditsRow.origin Rows.topBothEditsRow.targs := of_decide_eq_true (by kernel_rfl)
theorem wra : Try.f3.isWrapper Try.checked.prog Rows.topBothEditsRow.wrapper Rows.topBothEditsRow.mainSum := by
  unfold Func.isWrapper; first | (rw [if_pos (by decide +kernel)]; kernel_rfl) | (rw [if_neg (by decide +kernel)]; exact ⟨rfl, rfl⟩)
theorem over : Rows.topBothEditsRow.holds Try.pinned (OpenSpec.ofChange Rows.topBothEditsSpec) :=
  OpenClaim.holds_of_wide 3 Try.f3 rfl rfl rfl rfl rfl rfl rfl ⟨rfl, rfl, rfl, rfl, rfl⟩ rfl rfl rfl rfl rfl fnd Try.func3 cf ins wra
    (fun os started X enc _ => lifted os started X enc)
end Go.Proofs.Ytblfmjackdhajaa.TopBothEditsRow
namespace Go.Proofs.Ytblfmjackdhajaa
theorem provedTopBothEdits : Rows.TopBothEditsSaid := TopBothEditsRow.over
#print axioms provedTopBothEdits
end Go.Proofs.Ytblfmjackdhajaa
