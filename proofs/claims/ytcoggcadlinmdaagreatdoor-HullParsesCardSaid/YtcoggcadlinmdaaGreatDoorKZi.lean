/- Panics: a round of a range over a function that panics, an iterator through which this passes, a function that is left by it. Regions that end in a panic, contracts of functions that may panic, yields that may. Ranges over functions of which a round may panic. A function whose deferred closure recovers. No condition. -/
import Derived.Test.YtcoggcadlinmdaaGreatDoorKZh
import Derived.Test.YtcoggcadlinmdaaGreatDoorKZe
namespace Go.KB
variable {P : Program}
theorem jCg {F : Fence} {n l : Nat} {f : FuncId} {fn : Func} {tmps : Array Value} {assign body : Code} {w : World} {R : Ending → World → Prop} (hF : F.fn f) (hf : P.funcs[f]? = some fn)
  (h : assign.wpIn (F.inRound l) n P (Exit.then (fun a₁ w₁ => ∃ w₂, (Instr.beginRound l).run P w₁ = .ok () w₂ ∧ body.wpIn (F.inRound l) n P (fun e a w => ∃ ch, e = .panic ch ∧ a.defers = [] ∧ R (.panicked ch) w) a₁ w₂) (fun _ _ _ => False)) { tmps := tmps, defers := [] } w) :
  RoundIn F n P l f tmps assign body w R := by
 refine ⟨hF, fun c cs hr => ?_⟩
 obtain ⟨b, hb⟩ : ∃ b : Frame, b = { (default : Frame) with fn := f, kind := .normal, roundOf := some l } := ⟨_, rfl⟩
 have hbf : b.fn = f := by rw [hb]
 have hbr : b.roundOf = some l := by rw [hb]
 have hb0 : Frame.round l f tmps assign body .normal = b.atR { tmps := tmps, defers := [] } [.code assign, .beginRound, .code body] := by
  rw [hb]; simp [Frame.round, Frame.atR]
 have hr' : (F.inRound l).room ((c :: cs).length + 1 + n) := hr
 have hF' : (F.inRound l).fn b.fn := by rw [hbf]; exact hF
 obtain ⟨e, a₁, w₁, hq, harr⟩ := h b [.beginRound, .code body] (c :: cs) hbr hF' hr'
 rw [← hb0] at harr
 cases e <;> first | exact hq.elim | skip
 obtain ⟨w₂, hbg, hbody⟩ := hq
 have s1 : StepsIn (Machine.fenced P (F.inRound l)) P (lone (b.atR a₁ [.beginRound, .code body]) (c :: cs) w₁) (lone (b.atR a₁ [.code body]) (c :: cs) w₂) :=
  .one (fenced_calm (fr := b.atR a₁ [.beginRound, .code body]) hF' hr' rfl) (stepR_beginRound hbr hbg)
 obtain ⟨e₂, a₂, w₃, ⟨ch, rfl, hd, hR⟩, harr₂⟩ := hbody b [] (c :: cs) hbr hF' hr'
 obtain ⟨todo, hs⟩ := harr₂
 have hlv : Frame.leaving P { b.atR a₂ todo with mode := .panicking ch } w₃ (.panicked ch) := ⟨rfl, hd, fn, by show P.funcs[b.fn]? = _; rw [hbf]; exact hf⟩
 exact ⟨.panicked ch, w₃, hR, (StepsIn.trans harr s1).trans (StepsIn.trans hs (.one (fenced_leaving (F := F.inRound l) (n := n) hF' hr' hlv) (step_leave_panicked hlv)))⟩
def _root_.Go.Code.wpF (c : Code) (f : FuncId) (P : Program) (Q : Exit → Act → World → Prop) (a : Act) (w : World) : Prop :=
 ∀ (b : Frame) (k : List Item) (cs : List Frame), b.fn = f → b.roundOf = none → ∃ e a' w', Q e a' w' ∧ ArrivesIn (Machine.fenced P (rdF none)) P (lone (b.atR a (.code c :: k)) cs w) b k cs e a' w'
section
variable {f : FuncId} {Q : Exit → Act → World → Prop} {a : Act} {w : World}
theorem jMv {c : Code} (h : c.wpK none P Q a w) : c.wpF f P Q a w := fun b k cs _ hr => h b k cs hr trivial (by simp [rdF, Fence.room])
theorem jLx {x y : Code} (h : x.wpF f P (Exit.then (y.wpF f P Q) Q) a w) : (Code.seq x y).wpF f P Q a w := by
 intro b k cs hb hr
 have i0 : (lone (b.atR a (.code (.seq x y) :: k)) cs w).fenced P (rdF none) := fenced_calm (n := 0) trivial (by simp [rdF, Fence.room]) rfl
 obtain ⟨e, a₁, w₁, hq, harr⟩ := h b (.code y :: k) cs hb hr
 cases e with
 | normal =>
  obtain ⟨e₂, a₂, w₂, hq₂, harr₂⟩ := hq b k cs hb hr
  exact ⟨e₂, a₂, w₂, hq₂, .of_steps (.head i0 stepR_seq harr) harr₂⟩
 | exit id => exact ⟨_, a₁, w₁, hq, .of_steps (.one i0 stepR_seq) (.pass (x := .code y) rfl (fun _ _ => .inl (by simp)) harr)⟩
 | goto l => exact ⟨_, a₁, w₁, hq, .of_steps (.one i0 stepR_seq) (.pass (x := .code y) rfl (fun _ _ => .inl (by simp)) harr)⟩
 | ret => exact ⟨_, a₁, w₁, hq, .of_steps (.one i0 stepR_seq) (.pass (x := .code y) rfl (fun _ _ => .inl (by simp)) harr)⟩
 | panic ch => exact ⟨_, a₁, w₁, hq, .of_steps (.one i0 stepR_seq) (.pass (x := .code y) rfl (fun _ _ => .inl (by simp)) harr)⟩
 | outgrown => exact ⟨_, a₁, w₁, hq, .of_steps (.one i0 stepR_seq) (.pass (x := .code y) rfl (fun _ _ => .inl (by simp)) harr)⟩
theorem qXh {c : Code} {Q' : Exit → Act → World → Prop} (h : c.wpF f P Q a w) (hq : ∀ e a w, Q e a w → Q' e a w) : c.wpF f P Q' a w := fun b k cs hb hr =>
 let ⟨e, a', w', q, r⟩ := h b k cs hb hr; ⟨e, a', w', hq _ _ _ q, r⟩
theorem qWc {id : Nat} {c : Code} (h : c.wpF f P (Exit.inBlock id Q) a w) : (Code.block id c).wpF f P Q a w := by
 intro b k cs hb hr
 have tr : (rdF none).room (cs.length + 1 + 0) := by simp [rdF, Fence.room]
 have h0 : (lone (b.atR a (.code (.block id c) :: k)) cs w).fenced P (rdF none) := fenced_calm (n := 0) trivial tr rfl
 obtain ⟨e, a₁, w₁, hq, harr⟩ := h b (.inBlock id :: k) cs hb hr
 cases e with
 | normal => exact ⟨.normal, a₁, w₁, hq, .head h0 stepR_block (StepsIn.trans harr (.one (fenced_calm (n := 0) trivial tr rfl) stepR_inBlock))⟩
 | exit id' =>
  by_cases hid : id' = id
  ·simp only [Exit.inBlock, hid, if_true] at hq
   exact ⟨.normal, a₁, w₁, hq, .head h0 stepR_block (harr.1 k (by simp [exitTo, hid]))⟩
  ·simp only [Exit.inBlock, hid, if_false] at hq
   have this : (id == id') = false := by simp; exact fun h => hid h.symm
   have hx : exitTo id' (.inBlock id :: k) = exitTo id' k := by simp [exitTo, this]
   exact ⟨.exit id', a₁, w₁, hq, fun k' hk => .head h0 stepR_block (harr.1 k' (by rw [hx]; exact hk)),
    fun hr' hk => let ⟨k₁, h1, h2⟩ := harr.2 hr' (by rw [hx]; exact hk); ⟨k₁, h1, .head h0 stepR_block h2⟩⟩
 | goto l =>
  have hx : gotoIn l (.inBlock id :: k) = gotoIn l k := by simp [gotoIn]
  exact ⟨_, a₁, w₁, hq, fun k' hk => .head h0 stepR_block (harr.1 k' (by rw [hx]; exact hk)),
   fun hr' hk => let ⟨k₁, h1, h2⟩ := harr.2 hr' (by rw [hx]; exact hk); ⟨k₁, h1, .head h0 stepR_block h2⟩⟩
 | ret => exact ⟨_, a₁, w₁, hq, .of_steps (.one h0 stepR_block) harr⟩
 | panic ch => exact ⟨_, a₁, w₁, hq, .of_steps (.one h0 stepR_block) harr⟩
 | outgrown => exact ⟨_, a₁, w₁, hq, .of_steps (.one h0 stepR_block) harr⟩
theorem jT6 {g : Operand} {ps : Array Tmp} {assign body : Code}
  (h : ∃ (l : Nat) (mark : List Deferred) (w₁ : World) (d : Deferred) (w₁' : World) (f' : FuncId) (args : Array Value) (w₂ : World),
   (Instr.enterLoop f a.tmps ps assign body none).run P w = .ok (l, mark) w₁ ∧
   (resolve a.eval (rangeCall g l) 0).run P w₁ = .ok d w₁' ∧
   (invoke d.target d.args).run P w₁' = .ok (.enter f' args) w₂ ∧
   Calls P f' args w₂ (rangePost (rdF none) 0 P l Q { a with defers := mark ++ a.defers })) :
  (Code.rangeFunc g ps assign body).wpF f P Q a w := by
 intro b k cs hbf hro
 obtain ⟨l, mark, w₁, d, w₁', f', args, w₂, he, hres, hinv, hcall⟩ := h
 have tr : ∀ m, (rdF none).room m := fun m => by simp [rdF, Fence.room]
 rw [← hbf, ← hro] at he
 have h0 : (lone (b.atR a (.code (.rangeFunc g ps assign body) :: k)) cs w).fenced P (rdF none) := fenced_lone (.inl trivial) (fun _ _ => trivial) (tr _)
 have henter := stepR_rangeFunc (P := P) (b := b) (a := a) (k := k) (cs := cs) (w := w) he hres hinv
 obtain ⟨hF, hcall⟩ := (jN1 (ρ := none) (n := 0)).2 hcall
 obtain ⟨e, w₃, fr, hR, hsteps, hfn, hleave⟩ := hcall (b.atR { a with defers := mark ++ a.defers } (.inRangeFunc l :: k) :: cs) (tr _)
 cases e with
 | outgrown =>
  obtain ⟨a₀, w₀, hq⟩ := hR
  exact ⟨.outgrown, a₀, w₀, hq, .inr (Outgrown.of_steps (.one henter) hsteps)⟩
 | returned v =>
  have hl : (lone fr (b.atR { a with defers := mark ++ a.defers } (.inRangeFunc l :: k) :: cs) w₃).fenced P (rdF none) := fenced_leaving (n := 0) trivial (tr _) hleave
  obtain ⟨jump, w₄, hend, hj⟩ := hR
  have sback : StepsIn (Machine.fenced P (rdF none)) P (lone (b.atR a (.code (.rangeFunc g ps assign body) :: k)) cs w) (lone (b.atR { a with defers := mark ++ a.defers } ((jump.map Item.code).toList ++ k)) cs w₄) := by
   refine .head h0 henter (StepsIn.trans hsteps (.head hl ?_ (.one (fenced_calm (n := 0) (fr := b.atR { a with defers := mark ++ a.defers } (.endRangeFunc l :: k)) trivial (tr _) rfl) (stepR_endRangeFunc hend))))
   rw [← finish_atR_inRangeFunc l v]; exact step_leave_returned hleave
  cases jump with
  | none => exact ⟨.normal, _, w₄, hj, sback⟩
  | some c =>
   obtain ⟨e₂, a₂, w₅, hq₂, harr₂⟩ := hj b k cs hro trivial (tr _)
   exact ⟨e₂, a₂, w₅, hq₂, .of_steps sback harr₂⟩
 | panicked ch =>
  have hl : (lone fr (b.atR { a with defers := mark ++ a.defers } (.inRangeFunc l :: k) :: cs) w₃).fenced P (rdF none) := fenced_leaving (n := 0) trivial (tr _) hleave
  refine ⟨.panic ch, _, w₃, hR, .inRangeFunc l :: k, .head h0 henter (StepsIn.trans hsteps (.one hl ?_))⟩
  have := step_leave_panicked (c := b.atR { a with defers := mark ++ a.defers } (.inRangeFunc l :: k)) (cs := cs) hleave
  rw [Frame.raise_atR] at this
  exact this
def jR8 (P : Program) (fn : Func) (R : Ending → World → Prop) : Exit → Act → World → Prop
 | .panic ch, a, w => (a.defers = [] ∧ R (.panicked ch) w) ∨ ∃ D w', a.defers = [mark D] ∧ (Instr.takeDeferred D).run P w = .ok [] w' ∧ R (.panicked ch) w'
 | e, a, w => jB2 P fn R e a w
theorem jPt {fn : Func} {c : Code} {args : Array Value} {R : Ending → World → Prop} (hf : P.funcs[f]? = some fn) (hb : fn.body = some c)
  (h : c.wpF f P Q { tmps := args ++ Array.replicate (fn.ntmps - args.size) undef, defers := [] } w) (hq : ∀ e a w, Q e a w → bodyPostM (rdF none) 0 P fn R e a w) : Calls P f args w R := by
 refine (jN1 (ρ := none) (n := 0)).1 ⟨trivial, fun cs hr => ?_⟩
 obtain ⟨b, hbb⟩ : ∃ b : Frame, b = { (default : Frame) with fn := f, kind := .normal, roundOf := none } := ⟨_, rfl⟩
 have henter : Frame.enter P f args .normal = b.atR { tmps := args ++ Array.replicate (fn.ntmps - args.size) undef, defers := [] } [.code c] := by
  rw [hbb]; simp [Frame.enter, Frame.atR, hf, hb]
 have hbf : b.fn = f := by rw [hbb]
 have hbk : b.kind = .normal := by rw [hbb]
 have hbr : b.roundOf = none := by rw [hbb]
 obtain ⟨e, a', w', hq0, harr⟩ := h b [] cs hbf hbr
 rw [← henter] at harr
 have hM := hq e a' w' hq0
 have hF : (rdF none).fn b.fn := trivial
 have hfb : P.funcs[b.fn]? = some fn := by rw [hbf]; exact hf
 cases e with
 | normal =>
  obtain ⟨e', w'', fr', hR, hs, hfn, hl⟩ := leaves_stepsInM a'.defers .returning w' { b.atR a' [] with mode := .returning } cs rfl rfl rfl hfb hbk hF hr hM
  exact ⟨e', w'', fr', hR, ComesIn.of_steps (StepsIn.trans harr (.one (fenced_calm (fr := b.atR a' []) hF hr rfl) (stepR_end hbr))) hs, hfn.trans hbf, hl⟩
 | ret =>
  obtain ⟨todo, hs₀⟩ := harr.1 hbr
  obtain ⟨e', w'', fr', hR, hs, hfn, hl⟩ := leaves_stepsInM a'.defers .returning w' { b.atR a' todo with mode := .returning } cs rfl rfl rfl hfb hbk hF hr hM
  exact ⟨e', w'', fr', hR, ComesIn.of_steps hs₀ hs, hfn.trans hbf, hl⟩
 | panic ch =>
  obtain ⟨todo, hs₀⟩ := harr
  obtain ⟨e', w'', fr', hR, hs, hfn, hl⟩ := leaves_stepsInM a'.defers (.panicking ch) w' { b.atR a' todo with mode := .panicking ch } cs rfl rfl rfl hfb hbk hF hr hM
  exact ⟨e', w'', fr', hR, ComesIn.of_steps hs₀ hs, hfn.trans hbf, hl⟩
 | exit id => exact hM.elim
 | goto l => exact hM.elim
 | outgrown => exact ⟨.outgrown, w', b, hM, harr.resolve_left (by rw [hbk]; simp), hbf, trivial⟩
theorem jB2.toM {fn : Func} {R : Ending → World → Prop} {a : Act} {w : World} (hq : jB2 P fn R .ret a w) : LeavesInM (rdF none) 0 P fn a.tmps R a.defers .returning w := by
 rcases hq with ⟨h1, v, h2, h3⟩ | ⟨D, w', h1, h2, v, h3, h4⟩ | ⟨d, h1, ⟨fv, cap, f', args', h5, h6, h7⟩, v, h2, h3⟩
 ·rw [h1]; exact ⟨v, h2, h3⟩
 ·rw [h1]; exact ⟨by simp, .inl ⟨D, w', rfl, h2, v, h3, h4⟩⟩
 ·rw [h1]
  refine ⟨by simp, .inr ⟨fun x => absurd x (by simp [rdF]), fv, cap, f', args', h5, h6, fun _ _ => trivial, h7.mono ?_⟩⟩
  rintro e u' w' ⟨rfl, rfl, rfl⟩
  exact ⟨v, h2, h3⟩
theorem jAs {fn : Func} {c : Code} {args : Array Value} {R : Ending → World → Prop} (hf : P.funcs[f]? = some fn) (hb : fn.body = some c)
  (h : c.wpF f P (jR8 P fn R) { tmps := args ++ Array.replicate (fn.ntmps - args.size) undef, defers := [] } w) : Calls P f args w R := by
 refine jPt hf hb h fun e a w hq => ?_
 cases e with
 | normal => exact jB2.toM hq
 | ret => exact jB2.toM hq
 | panic ch =>
  rcases hq with ⟨h1, h2⟩ | ⟨D, w2, h1, h2, h3⟩
  ·simp only [bodyPostM]; rw [h1]; exact h2
  ·simp only [bodyPostM]; rw [h1]; exact ⟨by simp, .inl ⟨D, w2, rfl, h2, h3⟩⟩
 | exit id => exact hq.elim
 | goto l => exact hq.elim
 | outgrown => exact hq.elim
end
end Go.KB
namespace Go.KB
section
variable {ρ : Option Nat} {P : Program} {κ : Type} {B : Base} {h0 : H} {Γ : Ctx} {Λ : Own} {F : κ → Option Ent} {n : Nat} {a : Act} {w : World} {Q : Exit → Act → World → Prop}
def gdOk (m : Nat) : List Oper → Bool
 | [] => true
 | o :: os => (match o.guard with | none => true | some (j, _) => Nat.blt j m) && gdOk m os
theorem qKp {m : Nat} : ∀ {os : List Oper} {k : Nat} {o : Oper}, gdOk m os = true → os[k]? = some o → ∀ j want, o.guard = some (j, want) → j < m := by
 intro os
 induction os with
 | nil => intro k o _ h; simp at h
 | cons x r ih =>
  intro k o hg h j want hj
  simp only [gdOk, Bool.and_eq_true] at hg
  cases k with
  | zero =>
   simp at h; subst h
   have := hg.1
   rw [hj] at this
   rwa [Nat.blt_eq] at this
  | succ k => exact ih hg.2 (by simpa using h) j want hj
theorem qU5 {F' : Fence} {o : Oper} {a : Act} {w : World} {K X : Act → World → Prop} (h : o.wpIn F' 0 P a w K (Exit.then X Q)) : o.wpIn F' 0 P a w K Q := by
 unfold Oper.wpIn at *
 refine ⟨h.1, ?_⟩
 have h := h.2
 generalize (o.semAt F'.round a.eval).run P w = r at *
 cases r with
 | halt x w' => cases x <;> exact h
 | ok x w' =>
  cases x <;> first
   | exact h
   | exact ⟨h.1, CallsIn.mono h.2 (fun e w'' he => by cases e <;> exact he)⟩
   | exact ⟨h.1, RoundIn.mono h.2 (fun e w'' he => by cases e <;> exact he)⟩
theorem qVv {ops pre : Array Oper} {rest : List Nat} (hp : ∀ i, i < pre.size → ops[i]? = pre[i]?) (hg : gdOk pre.size pre.toList = true) : ∀ (l : List Nat) (a : Act) (w : World), (∀ i ∈ l, i < pre.size) →
  wpOpsIn (rdF ρ) 0 P pre (Exit.then (wpOpsIn (rdF ρ) 0 P ops Q rest) Q) l a w → wpOpsIn (rdF ρ) 0 P ops Q (l ++ rest) a w := by
 intro l
 induction l with
 | nil => intro a w _ h; exact h
 | cons i l ih =>
  intro a w hl h
  have hi := hl i List.mem_cons_self
  have ih := fun a w => ih a w (fun j hj => hl j (List.mem_cons_of_mem _ hj))
  rw [List.cons_append]
  simp only [wpOpsIn] at h ⊢
  rw [hp i hi]
  have hpi : pre[i]? = some pre[i] := by simp [hi]
  rw [hpi] at h ⊢
  simp only [] at h ⊢
  have hwant : Region.wanted pre[i] (yielded ops a.tmps) = Region.wanted pre[i] (yielded pre a.tmps) := by
   unfold Region.wanted
   cases hgd : pre[i].guard with
   | none => rfl
   | some q =>
    obtain ⟨j, want⟩ := q
    have hj := qKp (k := i) (o := pre[i]) hg (by simp) j want hgd
    simp only []
    unfold yielded
    rw [hp j hj]
  rw [hwant]
  split
  ·rename_i hw
   rw [if_pos hw] at h
   exact qU5 (Oper.wpIn_mono (fun a w hk => ih a w hk) h)
  ·rename_i hw
   rw [if_neg hw] at h
   exact ⟨h.1, ih _ _ h.2⟩
theorem qVw {ops : Array Oper} {Q : Exit → Act → World → Prop} (sp : List OS) (hAt : At B h0 Γ Λ F n a w) (hobl : qZb P sp ops.toList Γ Λ ops.toList sp)
  (hchk : chk Γ Λ false ops.toList sp = true) (hslots : ∀ o ∈ ops.toList, ∀ d, o.dst = some d → d < n)
  (hnext : ∀ a w, At B h0 (jP8 Γ ops.toList sp) (jP4 Λ ops.toList sp) F n a w → Q .normal a w) : wpOpsIn (rdF ρ) 0 P ops Q (List.range ops.size) a w := by
 have hlen := (jNb _ _ hobl).1
 have key : ∀ m k a w, k + m = ops.size → J B h0 Γ Λ F n ops.toList sp (fun j => Nat.blt j k) a w → wpOpsIn (rdF ρ) 0 P ops Q ((List.range' k m)) a w := by
  intro m
  induction m with
  | zero =>
   intro k a w hk hJ
   refine hnext a w (qGb hlen hJ ?_)
   intro j o hj
   have : j < ops.size := by rw [jHy] at hj; have := (List.getElem?_eq_some_iff.1 hj).1; simpa using this
   rw [Nat.blt_eq]; omega
  | succ m ih =>
   intro k a w hk hJ
   rw [List.range'_succ, wpOpsIn_cons]
   have hkl : k < ops.size := by omega
   have hi : jBa ops.toList k = some ops[k] := by rw [jHy]; simp [hkl]
   refine wpOpIn_mono ?_ (qQb hobl hchk hslots hi ?_ ?_ ?_ ?_ hJ)
   ·intro a w hJ'
    refine ih (k + 1) a w (by omega) (jPf (fun j o _ => ?_) hJ')
    cases hb : Nat.beq j k with
    | true => rw [jWp] at hb; subst hb; simp [Nat.blt_eq]
    | false =>
     have : j ≠ k := fun e => by rw [jWp.2 e] at hb; cases hb
     simp only [cond_false]
     rw [Bool.eq_iff_iff, Nat.blt_eq, Nat.blt_eq]; omega
   ·rw [Bool.eq_false_iff, Ne, Nat.blt_eq]; omega
   ·intro j hj; simpa [numOf] using hj
   ·intro j o' _ hj
    simp only [numOf, cond_false, Nat.blt_eq] at hj
    rw [Bool.eq_false_iff, Ne, Nat.blt_eq]; omega
   ·intro m o' _ hm j hj
    simp only [numOf, cond_false, Nat.blt_eq] at hj hm ⊢
    omega
 have := key ops.size 0 a w (by omega) (jPf (fun j o _ => by rw [eq_comm, Bool.eq_false_iff, Ne, Nat.blt_eq]; omega) (qJg hAt _ sp))
 rwa [← List.range_eq_range'] at this
theorem qVe {id : Nat} {ops : Array Oper} {o : Oper} (k : Nat) (sp : List OS) (Γ' : List (Nat × jJd)) (Λ' : List (Nat × (jZr))) (hAt : At B h0 Γ Λ F n a w) (hobl : qZb P sp (ops.toList.take k) Γ Λ (ops.toList.take k) sp)
  (hk : ops.toList[k]? = some o) (hpan : ∀ a w, At B h0 (mkG Γ') (mkO Λ') F n a w → ∀ K, o.wpK P a w K Q) (hog : o.guard = none := by rfl) (hg : gdOk k (ops.toList.take k) = true := by rfl)
  (hchk : (chk Γ Λ false (ops.toList.take k) sp && jFz n (ops.toList.take k)) = true := by kernel_rfl) (hg' : jSj (jP8 Γ (ops.toList.take k) sp) (Γ'.map (·.1)) = Γ' := by rfl) (hl : jRj (jP4 Λ (ops.toList.take k) sp) (Λ'.map (·.1)) = Λ' := by rfl) : (Code.region id ops false).wpK ρ P Q a w := by
 rw [Bool.and_eq_true] at hchk
 have hkl : k < ops.toList.length := (List.getElem?_eq_some_iff.1 hk).1
 obtain ⟨pre, hpre⟩ : ∃ pre : Array Oper, pre = (ops.toList.take k).toArray := ⟨_, rfl⟩
 have hpl : pre.toList = ops.toList.take k := by rw [hpre]
 have hps : pre.size = k := by rw [← Array.length_toList, hpl, List.length_take]; omega
 have hp : ∀ i, i < pre.size → ops[i]? = pre[i]? := fun i hi => by
  rw [← Array.getElem?_toList, ← Array.getElem?_toList, hpl, List.getElem?_take_of_lt (by omega)]
 have hok : ops[k]? = some o := by rw [← Array.getElem?_toList]; exact hk
 have hsz : ops.size = k + ((ops.size - k - 1) + 1) := by rw [Array.length_toList] at hkl; omega
 refine wpIn_region ?_
 rw [hsz, List.range_eq_range', ← List.range'_append_1, ← List.range_eq_range', Nat.zero_add]
 refine qVv hp (by rw [hps, hpl]; exact hg) (List.range k) a w (fun i hi => by rw [hps]; exact List.mem_range.1 hi) ?_
 rw [← hps]
 refine qVw sp hAt (by rw [hpl]; exact hobl) (by rw [hpl]; exact hchk.1) (by rw [hpl]; exact jLk hchk.2) fun a w x => ?_
 rw [hpl] at x
 show wpOpsIn (rdF ρ) 0 P ops Q (List.range' pre.size (ops.size - pre.size - 1 + 1)) a w
 rw [hps, List.range'_succ]
 simp only [wpOpsIn]
 rw [hok]
 simp only []
 rw [if_pos (show Region.wanted o (yielded ops a.tmps) = true by unfold Region.wanted; rw [hog])]
 have hx : At B h0 (mkG Γ') (mkO Λ') F n a w := by
  have := x.pick (Γ'.map (·.1)) (Λ'.map (·.1))
  rw [hg', hl] at this
  exact this
 exact qVg (hpan a w hx _)
end
def enP (res : jJd) : Option (List PanicEntry) → Ending → H → Prop
 | none => fun e h => ∃ u, e = .returned u ∧ res.p h undef u
 | some ch => fun e _ => e = .panicked ch
def jSt (P : Program) (f : FuncId) (args : List jJd) (pre : List (Nat × jZr)) (post : List Po) (En : Ending → H → Prop) : Prop :=
 ∀ (κ : Type) (B : Base) (L : κ → Option Ent) (h : H) (w : World) (vs : List Value) (E : Nat → Option Ent), St B h (Sum.elim E L) w → args.length = vs.length → qJq pre E (plc fun k => vs.getD k undef) →
  (∀ (j : Nat) (g : jJd) (u : Value), args[j]? = some g → vs[j]? = some u → g.p h undef u) →
  Calls P f vs.toArray w (fun e w' => ∃ h' E', En e h' ∧ Hle h h' ∧ St B h' (Sum.elim E' L) w' ∧ jL0 pre post E' (plc fun k => vs.getD k undef))
def jNn (P : Program) (fn : Func) {κ : Type} (B : Base) (h0 : H) (F : κ → Option Ent) (vM : Nat → Value) (pre : List (Nat × jZr)) (post : List Po) (En : Ending → H → Prop) : Exit → Act → World → Prop :=
 fun e a w => B.df = [] → jR8 P fn (fun e w' => ∃ h' E', En e h' ∧ Hle h0 h' ∧ St B h' (Sum.elim E' F) w' ∧ jL0 pre post E' (plc vM)) e a w
theorem jR8.mono {P : Program} {fn : Func} {R R' : Ending → World → Prop} (hR : ∀ e w, R e w → R' e w) {e : Exit} {a : Act} {w : World} (h : jR8 P fn R e a w) : jR8 P fn R' e a w := by
 cases e with
 | panic ch =>
  rcases h with ⟨h1, h2⟩ | ⟨D, w', h1, h2, h3⟩
  ·exact .inl ⟨h1, hR _ _ h2⟩
  ·exact .inr ⟨D, w', h1, h2, hR _ _ h3⟩
 | normal => exact jB2.mono (P := P) hR (e := .normal) h
 | ret => exact jB2.mono (P := P) hR (e := .ret) h
 | exit id => exact h.elim
 | goto l => exact h.elim
 | outgrown => exact h.elim
section
variable {P : Program}
theorem qJx {n : Nat} {f : FuncId} {fn : Func} {c : Code} {args : List jJd} {pre : List (Nat × jZr)} {post : List Po} {En : Ending → H → Prop} (pm : List Nat) (hf : P.funcs[f]? = some fn) (hb : fn.body = some c) (hn : fn.ntmps = n)
  (hchk : (Nat.ble args.length n && Nat.ble n 5000 && jVf args) = true)
  (hwp : ∀ (κ : Type) (B : Base) (h0 : H) (F : κ → Option Ent) (a : Act) (w : World) (vM : Nat → Value), At B h0 (mkG (pmG pm vM ++ jP5 0 args)) (mkO pre) F n a w → c.wpF f P (jNn P fn B h0 F vM pre post En) a w) : jSt P f args pre post En := by
 intro κ B L h w vs E hst hl hpre hargs
 simp only [Bool.and_eq_true, Nat.ble_eq] at hchk
 obtain ⟨⟨hlen, hn5⟩, hdp⟩ := hchk
 have hdep := jZq hdp
 have hAt : At B.e h (mkG (pmG pm (fun k => vs.getD k undef) ++ jP5 0 args)) (mkO pre) L n { tmps := vs.toArray ++ Array.replicate (fn.ntmps - vs.toArray.size) undef, defers := [] } w := by
  refine ⟨h, E, Hle.refl h, hst.toE, ?_, ?_, ?_, rfl⟩
  ·intro s q hs
   obtain ⟨e, he, hq⟩ := hpre.get hs
   refine ⟨e, he, ?_⟩
   rw [jFu]
   unfold plc at hq
   cases h5 : Nat.ble 5000 s with
   | false => rw [h5] at hq; exact hq
   | true =>
    rw [h5] at hq
    rw [Nat.ble_eq] at h5
    rw [List.getD_eq_getElem?_getD, List.getElem?_eq_none (by omega)]
    exact hq
  ·intro s
   rcases qUp (pm := pm) (Γ := jP5 0 args) (vM := fun k => vs.getD k undef) (s := s) with h1 | h1
   ·show (lkF (pmG pm _ ++ jP5 0 args) s).at _ _ _
    rw [h1]; exact jFu s
   ·show (lkF (pmG pm _ ++ jP5 0 args) s).at _ _ _
    rw [h1]
    rcases jDh args 0 s with h1 | ⟨j, g, h1, h2, h3⟩
    ·rw [h1]; exact trivial
    ·rw [h3]
     have hj := (List.getElem?_eq_some_iff.1 h1).1
     have hv : vs[j]? = some vs[j] := List.getElem?_eq_getElem (by omega)
     have := hargs j g _ h1 hv
     unfold jJd.at jJd.dv
     rw [hdep g (List.mem_of_getElem? h1), h2, Nat.zero_add, jFu, List.getD_eq_getElem?_getD, hv]
     exact this
  ·simp; omega
 refine jAs hf hb (qXh (hwp _ B.e h L _ w (fun k => vs.getD k undef) hAt) fun e a w hq => ?_)
 exact (hq rfl).mono fun e w ⟨h', E', he, hle, hs, hp⟩ => ⟨h', E', he, hle, hs.ofE, hp⟩
section
variable {κ : Type} {B : Base} {h h0 : H} {L : Nat → Option Ent} {Γ : Ctx} {Λ : Own} {F : κ → Option Ent} {n : Nat} {a : Act} {w : World} {vM : Nat → Value} {pre : List (Nat × jZr)} {post : List Po} {res : jJd}
theorem retE {fn : Func} (hA : PostA Γ Λ vM pre post) (hR : qJ0 P Γ Λ fn res) (hAt : At B h0 Γ Λ F n a w) : jNn P fn B h0 F vM pre post (enP res none) .ret a w := by
 obtain ⟨h, L, hl, hst, hOw, hsat, _, hdf⟩ := hAt
 obtain ⟨u, hu, hp⟩ := hR _ B F h a w L hst hOw hsat
 exact fun hB => .inl ⟨hdf.trans hB, u, hu, h, L, ⟨u, rfl, hp⟩, hl, hst, hA.ok hOw hsat (fun _ _ _ => rfl)⟩
theorem retEn {fn : Func} (hA : PostA Γ Λ vM pre post) (hR : qJ0 P Γ Λ fn res) (hAt : At B h0 Γ Λ F n a w) : jNn P fn B h0 F vM pre post (enP res none) .normal a w := retE hA hR hAt
theorem panE {fn : Func} {ch : List PanicEntry} (hA : PostA Γ Λ vM pre post) (hAt : At B h0 Γ Λ F n a w) : jNn P fn B h0 F vM pre post (enP res (some ch)) (.panic ch) a w := by
 obtain ⟨h, L, hl, hst, hOw, hsat, _, hdf⟩ := hAt
 exact fun hB => .inl ⟨hdf.trans hB, h, L, rfl, hl, hst, hA.ok hOw hsat (fun _ _ _ => rfl)⟩
theorem qU6 {fn : Func} {R : Ending → World → Prop} {D : Nat} {e : Exit} (he : e = .ret ∨ ∃ ch, e = .panic ch) (hAt : At (B.d (mark D)) h0 Γ Λ F n a w) (h9 : Λ 4999 = some (jCj D))
  (hk : ∀ (a : Act) (w : World), At B h0 Γ (fun k => bif Nat.beq 4999 k then none else Λ k) F n a w → B.df = [] → jR8 P fn R e a w) : B.df = [] → jR8 P fn R e a w := by
 intro hB
 obtain ⟨h, L, hle, hst, hOw, hsat, hsz, hdf⟩ := hAt
 obtain ⟨e9, hL, rfl⟩ := hOw 4999 _ h9
 obtain ⟨hcl, hok⟩ := hst.own (k := Sum.inl 4999) hL
 have hD : w.heap[D]? = some (.deferred (some [])) := hok
 have hno := fun o' => (hcl (D, 0) (by simp [jVj])).2.2 o' (Nat.zero_le _)
 have hst' : St B h (Sum.elim (fun k => if k = 4999 then none else L k) F) (w.putObj D (.deferred none)) := by
  refine hst.ofD.step (hnf := hst.ofD.nf_own (k := Sum.inl 4999) hL (by simp [jVj])) (Sum.inl 4999) (fun i => i = D) (fun i hi _ => ⟨_, hL, (D, 0), by simp [jVj], hi.symm⟩) (by simp) rfl rfl rfl (fun i _ hi => World.putObj_heap_other hi) (Hle.refl h) (fun _ _ _ _ => rfl) ?_ ?_ ?_
  ·rintro i o' u (rfl | hi) hu
   ·rw [hno o'] at hu; cases hu
   ·rw [hst.fresh hi] at hu; cases hu
  ·intro k' e' hne he
   cases k' with
   | inr x => exact he
   | inl k =>
    have : k ≠ 4999 := fun x => hne (by rw [x])
    simpa [this] using he
  ·intro e' he; simp at he
 have hdf' : a.defers = [mark D] := by rw [hdf]; show mark D :: B.df = _; rw [hB]
 have hA2 : At B h0 Γ (fun k => bif Nat.beq 4999 k then none else Λ k) F n { a with defers := [] } (w.putObj D (.deferred none)) := by
  refine ⟨h, _, hle, hst', ?_, fun s => hsat s, hsz, hB.symm⟩
  intro k q hq
  cases hb : Nat.beq 4999 k with
  | true => simp only [hb, cond_true] at hq; cases hq
  | false =>
   simp only [hb, cond_false] at hq
   have n1 : k ≠ 4999 := fun x => by rw [jWp.2 x.symm] at hb; cases hb
   obtain ⟨e1, h2, h3⟩ := hOw k q hq
   exact ⟨e1, by simp [n1, h2], h3⟩
 have := hk _ _ hA2 hB
 rcases he with rfl | ⟨ch, rfl⟩
 ·rcases this with ⟨_, v, h1, h2⟩ | ⟨D', w', h1, _⟩ | ⟨d', h1, _⟩
  ·exact .inr (.inl ⟨D, _, hdf', run_takeDeferred hD, v, h1, h2⟩)
  ·cases h1
  ·cases h1
 ·rcases this with ⟨_, h2⟩ | ⟨D', w', h1, _⟩
  ·exact .inr ⟨D, _, hdf', run_takeDeferred hD, h2⟩
  ·cases h1
theorem jM7 {o : Oper} {f : FuncId} {fn : Func} {args : List jJd} {N : List (Nat × jJd)} {xs : Array Operand} {ts : Array TypeId} {ch : List PanicEntry} {res : jJd} {Q : Exit → Act → World → Prop} (hc : jSt P f args [] [] (enP res (some ch))) (hf : P.funcs[f]? = some fn) (hb : jKn fn = true) (hd : jVf args = true)
  (ho : o.op = .call { callee := .value (.func f), args := xs, argTypes := ts }) (hargs : jKw N args xs.toList) (hAt : At B h0 Γ Λ F n a w) (hN : ∀ h, Sat Γ h a → jRa N h a)
  (hQ : ∀ w', At B h0 Γ Λ F n a w' → Q (.panic ch) a w') (K : Act → World → Prop) : o.wpK P a w K Q := by
 obtain ⟨h, L, hle, hst, hOw, hsat, hsz, hdf⟩ := hAt
 simp only [jKn, Bool.and_eq_true, Bool.not_eq_true'] at hb
 have hbody : fn.body ≠ none := by intro hx; rw [hx] at hb; cases hb.1
 have hname : fn.name ≠ "runtime.NumGoroutine" := by simpa using hb.2
 have hdp := jZq hd
 obtain ⟨hlen, hall⟩ := hargs.spec
 have hn := hN h hsat
 have e1 : (xs.toList.map a.eval).toArray = xs.map a.eval := by apply Array.ext'; simp
 have hcall := hc (Nat ⊕ κ) B (Sum.elim L F) h w (xs.toList.map a.eval) (fun _ => none) (hst.sumNone) (by rw [List.length_map]; exact hlen) trivial (by
  intro j gg v hg hv
  rw [List.getElem?_map] at hv
  cases hx : xs.toList[j]? with
  | none => rw [hx] at hv; cases hv
  | some x =>
   rw [hx] at hv; cases hv
   have := hall j gg x hg hx h a hn
   unfold jJd.dv at this
   rw [hdp gg (List.mem_of_getElem? hg)] at this
   exact this)
 rw [e1] at hcall
 have hrun : (execOp a.eval o).run P w = .ok (.enter f (xs.map a.eval)) w := by
  simp only [execOp, ho, Sem.run_bind]
  simp [resolve, Deferred.ofValue, invoke, callFunc, hf, hname, hbody, go_sem]
 unfold Oper.wpK
 rw [hrun, jBg]
 refine hcall.mono ?_
 rintro e w' ⟨h', E', he, hl, hst', _⟩
 have he : e = .panicked ch := he
 subst he
 refine hQ w' ⟨h', L, hle.trans hl, ?_, hOw, fun s => (Γ s).mono hl (hsat s), hsz, hdf⟩
 exact hst'.reind Sum.inr (fun _ _ x => x) (fun _ _ _ _ _ _ n e => n (Sum.inr.inj e))
end
def YlOkP (P : Program) {X ι : Type} (A : ι → List jJd) (YE : X → Ent → Prop) (Y : X → ι → Option (X × Bool)) (pz : X → Option (List PanicEntry)) (h : H) (l : Nat) : Prop :=
 ∀ (i : ι) (x x' : X) (b : Bool), Y x i = some (x', b) → ∀ (κ : Type) (B : Base) (L : κ → Option Ent) (h' : H) (w : World) (vs : List Value) (e : Ent), Hle h h' → St B h' (Sum.elim (fun _ : Unit => some e) L) w → YE x e → (A i).length = vs.length →
  (∀ (j : Nat) (g : jJd) (v : Value), (A i)[j]? = some g → vs[j]? = some v → g.p h' undef v) →
  YieldAt (rdF none) 0 P l vs.toArray w (fun en w' => ∃ h'' e', (match pz x' with | none => en = .returned (.bool b) | some ch => en = .panicked ch) ∧ Hle h' h'' ∧ St B h'' (Sum.elim (fun _ : Unit => some e') L) w' ∧ YE x' e')
def jS1 (P : Program) {X ι : Type} (A : ι → List jJd) (YE : X → Ent → Prop) (Y : X → ι → Option (X × Bool)) (pz : X → Option (List PanicEntry)) : jJd :=
 ⟨none, fun h _ v => ∃ l, v = .func (.yield l) #[] #[] ∧ YlOkP P A YE Y pz h l, fun hl ⟨l, e, k⟩ => ⟨l, e, fun i x x' b hY κ B L h' w vs en hl' => k i x x' b hY κ B L h' w vs en (hl.trans hl')⟩⟩
section
variable {o : Oper} {N : List (Nat × jJd)} {X ι : Type} {A : ι → List jJd} {YE : X → Ent → Prop} {Y : X → ι → Option (X × Bool)} {pz : X → Option (List PanicEntry)}
theorem jTq (i : ι) {x x' : X} {b : Bool} {g : Nat} {z : Operand} {xs : Array Operand} {ts : Array TypeId} (hY : Y x i = some (x', b)) (hpz : pz x' = none) (hd : jVf (A i) = true)
  (ho : o.op = .call { callee := .value z, args := xs, argTypes := ts }) (hz : jQf N z (jS1 P A YE Y pz)) (hargs : jKw N (A i) xs.toList) : jXh P o N [(g, yE YE x)] (fV Rep.bool b) [(g, some (yE YE x'))] := by
 intro κ B F L h a w hst hn hk hdn next Q hnext _
 obtain ⟨e, hL, hq⟩ := hk.1
 have hL : L g = some e := hL
 obtain ⟨l, hv, hyl⟩ := hz h a hn
 have hdp := jZq hd
 obtain ⟨hlen, hall⟩ := hargs.spec
 have hst1 : St B h (Sum.elim (fun _ : Unit => some e) (Sum.elim (fun k => if k = g then none else L k) F)) w := by
  have := (jBn hL).symm ▸ hst
  exact St.out this
 obtain ⟨fn, tmps, assign, body, hy, hR⟩ := hyl i x x' b hY _ B _ h w (xs.toList.map a.eval) e (Hle.refl h) hst1 hq (by rw [List.length_map]; exact hlen) (by
  intro j gg v hg hv
  rw [List.getElem?_map] at hv
  cases hx : xs.toList[j]? with
  | none => rw [hx] at hv; cases hv
  | some x =>
   rw [hx] at hv; cases hv
   have := hall j gg x hg hx h a hn
   unfold jJd.dv at this
   rw [hdp gg (List.mem_of_getElem? hg)] at this
   exact this)
 have e1 : (xs.toList.map a.eval).toArray = xs.map a.eval := by apply Array.ext'; simp
 rw [e1] at hy
 have hrun : (execOp a.eval o).run P w = .ok (.round l fn tmps assign body) w := by
  simp only [execOp, ho, Sem.run_bind]
  simp [resolve, hv, Deferred.ofValue, invoke, hy]
 unfold Oper.wpK
 rw [hrun]
 show RoundIn (rdF none) 0 P l fn tmps assign body w _
 refine hR.mono ?_
 rintro en w' ⟨h', e', he, hl, hst', hq'⟩
 rw [hpz] at he
 have he : en = .returned (.bool b) := he
 subst he
 refine hnext (.bool b) h' w' _ hl (jZz.2 rfl) hst'.into ?_
 exact jVg hq'
theorem qQ9 {κ : Type} {B : Base} {h0 : H} {Γ : Ctx} {Λ : Own} {F : κ → Option Ent} {n : Nat} {a : Act} {w : World} {Q : Exit → Act → World → Prop} {ch : List PanicEntry} (i : ι) {x x' : X} {b : Bool} (g : Nat) {z : Operand} {xs : Array Operand} {ts : Array TypeId} (hY : Y x i = some (x', b)) (hpz : pz x' = some ch) (hd : jVf (A i) = true)
  (ho : o.op = .call { callee := .value z, args := xs, argTypes := ts }) (hz : jQf N z (jS1 P A YE Y pz)) (hargs : jKw N (A i) xs.toList) (hAt : At B h0 Γ Λ F n a w) (hN : ∀ h, Sat Γ h a → jRa N h a) (hg : Λ g = some (yE YE x))
  (hQ : ∀ w', At B h0 Γ (fun k => bif Nat.beq g k then some (yE YE x') else Λ k) F n a w' → Q (.panic ch) a w') (K : Act → World → Prop) : o.wpK P a w K Q := by
 obtain ⟨h, L, hle, hst, hOw, hsat, hsz, hdf⟩ := hAt
 obtain ⟨e, hL, hq⟩ := hOw g _ hg
 have hn := hN h hsat
 obtain ⟨l, hv, hyl⟩ := hz h a hn
 have hdp := jZq hd
 obtain ⟨hlen, hall⟩ := hargs.spec
 have hst1 : St B h (Sum.elim (fun _ : Unit => some e) (Sum.elim (fun k => if k = g then none else L k) F)) w := by
  have := (jBn hL).symm ▸ hst
  exact St.out this
 obtain ⟨fn, tmps, assign, body, hy, hR⟩ := hyl i x x' b hY _ B _ h w (xs.toList.map a.eval) e (Hle.refl h) hst1 hq (by rw [List.length_map]; exact hlen) (by
  intro j gg v hg hv
  rw [List.getElem?_map] at hv
  cases hx : xs.toList[j]? with
  | none => rw [hx] at hv; cases hv
  | some x =>
   rw [hx] at hv; cases hv
   have := hall j gg x hg hx h a hn
   unfold jJd.dv at this
   rw [hdp gg (List.mem_of_getElem? hg)] at this
   exact this)
 have e1 : (xs.toList.map a.eval).toArray = xs.map a.eval := by apply Array.ext'; simp
 rw [e1] at hy
 have hrun : (execOp a.eval o).run P w = .ok (.round l fn tmps assign body) w := by
  simp only [execOp, ho, Sem.run_bind]
  simp [resolve, hv, Deferred.ofValue, invoke, hy]
 unfold Oper.wpK
 rw [hrun]
 show RoundIn (rdF none) 0 P l fn tmps assign body w _
 refine hR.mono ?_
 rintro en w' ⟨h', e', he, hl, hst', hq'⟩
 rw [hpz] at he
 have he : en = .panicked ch := he
 subst he
 refine hQ w' ⟨h', set1 L g e', hle.trans hl, hst'.into, ?_, fun s => (Γ s).mono hl (hsat s), hsz, hdf⟩
 intro k q hk
 cases hb : Nat.beq g k with
 | true => simp only [hb, cond_true] at hk; cases hk; rw [jWp] at hb; subst hb; exact ⟨e', jHt, hq'⟩
 | false =>
  simp only [hb, cond_false] at hk
  have n1 : k ≠ g := fun x => by rw [jWp.2 x.symm] at hb; cases hb
  obtain ⟨e1, h2, h3⟩ := hOw k q hk
  exact ⟨e1, by simp [set1, n1, h2], h3⟩
end
end
end Go.KB
namespace Go.KB
variable {P : Program} {o : Oper} {N : List (Nat × jJd)} {α β : Type}
theorem callsE {f : FuncId} {args : List jJd} {pre : List (Nat × jZr)} {post : List Po} {En : Ending → H → Prop} {gs : List Nat} {κ : Type} {B : Base} {h : H} {L : Nat → Option Ent} {F : κ → Option Ent} {w : World} {vs : List Value}
  (hc : jSt P f args pre post En) (hcc : jTw pre gs = true) (hst : St B h (Sum.elim L F) w) (hlen : args.length = vs.length) (hpre : qJq pre (fun k => (toC pre gs k).bind L) (plc fun k => vs.getD k undef))
  (hargs : ∀ (j : Nat) (g : jJd) (u : Value), args[j]? = some g → vs[j]? = some u → g.p h undef u) :
  Calls P f vs.toArray w (fun e w' => ∃ h' E', En e h' ∧ Hle h h' ∧ St B h' (Sum.elim (fun s => match ofC pre gs s with | some k => E' k | none => L s) F) w' ∧ jL0 pre post E' (plc fun k => vs.getD k undef)) := by
 have hst1 : St B h (Sum.elim (fun k => (toC pre gs k).bind L) (Sum.elim (fun s => if (ofC pre gs s).isSome then none else L s) F)) w := by
  refine hst.reind (fun k => match k with | .inl k => .inl ((toC pre gs k).getD 0) | .inr (.inl s) => .inl s | .inr (.inr x) => .inr x) ?_ ?_
  ·intro k e he
   cases k with
   | inl k =>
    simp only [Sum.elim_inl] at he
    cases ht : toC pre gs k with
    | none => rw [ht] at he; cases he
    | some g => rw [ht] at he; simpa [ht] using he
   | inr k => cases k with
    | inl s =>
     simp only [Sum.elim_inr, Sum.elim_inl] at he
     split at he
     ·cases he
     ·exact he
    | inr x => exact he
  ·intro k k' e e' hk1 hk2 hne
   have key : ∀ k e, (toC pre gs k).bind L = some e → ∃ g, toC pre gs k = some g ∧ ofC pre gs g = some k := by
    intro k e he
    cases ht : toC pre gs k with
    | none => rw [ht] at he; cases he
    | some g => exact ⟨g, rfl, qUx hcc ht⟩
   have keyS : ∀ s e, (if (ofC pre gs s).isSome then none else L s) = some e → ofC pre gs s = none := by
    intro s e he
    split at he
    ·cases he
    ·rename_i hh; simpa using hh
   cases k with
   | inl k =>
    obtain ⟨g, hg, hg'⟩ := key k e hk1
    cases k' with
    | inl k' =>
     obtain ⟨g2, hg2, hg2'⟩ := key k' e' hk2
     intro he
     simp only [hg, hg2, Option.getD_some] at he
     have := Sum.inl.inj he
     rw [this, hg2'] at hg'; cases hg'; exact hne rfl
    | inr k' => cases k' with
     | inl s =>
      intro he
      simp only [hg, Option.getD_some] at he
      have := Sum.inl.inj he
      have h2 := keyS s e' hk2
      rw [← this, hg'] at h2; cases h2
     | inr x => intro he; cases he
   | inr k => cases k with
    | inl s =>
     have h2 := keyS s e hk1
     cases k' with
     | inl k' =>
      obtain ⟨g2, hg2, hg2'⟩ := key k' e' hk2
      intro he
      simp only [hg2, Option.getD_some] at he
      have := Sum.inl.inj he
      rw [this, hg2'] at h2; cases h2
     | inr k' => cases k' with
      | inl s' => intro he; exact hne (by rw [Sum.inl.inj he])
      | inr x => intro he; cases he
    | inr x => cases k' with
     | inl k' => intro he; cases he
     | inr k' => cases k' with
      | inl s' => intro he; cases he
      | inr x' => intro he; exact hne (by rw [Sum.inr.inj he])
 refine (hc _ B _ h w vs _ hst1 hlen hpre hargs).mono ?_
 rintro e w' ⟨h', E', he, hl, hst', hpost⟩
 refine ⟨h', E', he, hl, ?_, hpost⟩
 refine hst'.reind (fun k => match k with | .inl s => (match ofC pre gs s with | some k => .inl k | none => .inr (.inl s)) | .inr x => .inr (.inr x)) ?_ ?_
 ·intro k e he
  cases k with
  | inr x => exact he
  | inl s =>
   simp only [Sum.elim_inl] at he
   simp only []
   cases ho : ofC pre gs s with
   | some k => rw [ho] at he; exact he
   | none => rw [ho] at he; simpa [ho] using he
 ·intro k k' e e' hk1 hk2 hne
  cases k with
  | inr x => cases k' with
   | inr x' => intro he; exact hne (by rw [Sum.inr.inj (Sum.inr.inj he)])
   | inl s => intro he; simp only [] at he; cases ho : ofC pre gs s <;> rw [ho] at he <;> cases he
  | inl s => cases k' with
   | inr x => intro he; simp only [] at he; cases ho : ofC pre gs s <;> rw [ho] at he <;> cases he
   | inl s' =>
    have hss : s ≠ s' := fun x => hne (by rw [x])
    intro he
    simp only [] at he
    cases ho : ofC pre gs s with
    | none => cases ho' : ofC pre gs s' with
     | none => rw [ho, ho'] at he; exact hss (Sum.inl.inj (Sum.inr.inj he))
     | some k' => rw [ho, ho'] at he; cases he
    | some k => cases ho' : ofC pre gs s' with
     | none => rw [ho, ho'] at he; cases he
     | some k' =>
      rw [ho, ho'] at he
      have := Sum.inl.inj he
      subst this
      have h1 := qQn hcc ho
      have h2 := qQn hcc ho'
      rw [h1] at h2; exact hss (Option.some.inj h2)
def qG2 (n : Nat) {κ : Type} (B : Base) (h0 : H) (F : κ → Option Ent) (l : Nat) (r : Loop) (D : Nat) (Qs : List (Nat × jZr)) (js : List Exit) (j : Option Nat) (pz : Option (List PanicEntry)) : Exit → Act → World → Prop :=
 fun e a w => (match pz with | none => xOf js j = e | some ch => e = .panic ch) ∧ ∃ Γ Λ, At B h0 Γ Λ F n a w ∧ Λ 4998 = some (qXf l (jF7 r)) ∧ Λ 4999 = some (jCj D) ∧ HasQ Λ Qs
section
variable {κ : Type} {B : Base} {h0 : H} {Λ : Own} {F : κ → Option Ent} {n : Nat} {a : Act} {w : World}
theorem qZv {S ι : Type} {f : FuncId} {fn0 : Func} {gf : FuncId} {fn : Func} {C : List jJd} {t : Nat} {ps : List Nat} {assign body : Code} {Γl : List (Nat × jJd)} {Qq : S → List (Nat × jZr)} {A : ι → List jJd} {g : S → ι → Option (S × Option Nat)} {js : List Exit} {m : Nat} {pz : S × Option Nat → Option (List PanicEntry)} {s0 s : S} {j : Option Nat}
  {preI : List (Nat × jZr)} {postI : List Po} {gI ks : List Nat} {Qx : Exit → Act → World → Prop}
  (hff : P.funcs[f]? = some fn0) (hpz0 : ∀ s, pz (s, none) = none) (hpz1 : ∀ s k, pz (s, some k) = none → k < m → k < js.length) (hAt : At B h0 (mkG Γl) Λ F n a w) (ht : mkG Γl t = qUy gf C) (hf : P.funcs[gf]? = some fn) (hbd : jKn fn = true)
  (hit : ∀ YE : S × Option Nat → Ent → Prop, jSt P gf (jS1 P A YE (yl g m) pz :: C) ((5000, yE YE (s0, none)) :: preI) (Po.to (yE YE (s, j)) :: postI) (enP fT0 (pz (s, j))))
  (hQ0 : HasQ Λ (Qq s0)) (hks : ∀ s, (Qq s).map (·.1) = ks) (hG : ∀ s, GhL (Qq s)) (hI : HasQ Λ (qUn preI gI)) (hIk : jUs [] [] preI postI gI)
  (hchk : (jG6 (4997 :: 4998 :: 4999 :: (ks ++ gI)) && qG6 Γl && jG6 ps && ps.all (fun p => Nat.blt p n) && qYt js) = true) (hcc : ∀ q, jTw ((5000, q) :: preI) (4997 :: gI) = true) (hA : ∀ i, (A i).length = ps.length ∧ jVf (A i) = true)
  (hround : ∀ (s : S) (i : ι) (s' : S) (j : Option Nat), g s i = some (s', j) → ∀ (κ : Type) (B : Base) (h0 : H) (F : κ → Option Ent) (l : Nat) (r : Loop) (D : Nat) (a : Act) (w : World), r.state = .ready → At B h0 (mkG (qWb ps (A i) ++ Γl)) (mkO ((4998, qXf l r) :: (4999, jCj D) :: Qq s)) F n a w →
   assign.wpK (some l) P (Exit.then (fun a₁ w₁ => ∃ w₂, (Instr.beginRound l).run P w₁ = .ok () w₂ ∧ body.wpK (some l) P (qG2 n B h0 F l r D (Qq s') js j (pz (s', j))) a₁ w₂) (fun _ _ _ => False)) a w)
  (hdone : ∀ (D : Nat) (a : Act) (w : World), At (B.d (mark D)) h0 (mkG Γl) (mkO ((4999, jCj D) :: (Qq s ++ qX3 preI gI postI))) F n a w → Qx (match pz (s, j) with | none => xOf js j | some ch => .panic ch) a w) : (Code.rangeFunc (.tmp t) ps.toArray assign body).wpF f P Qx a w := by
 simp only [Bool.and_eq_true] at hchk
 obtain ⟨⟨⟨⟨hnd, hdG⟩, hnp⟩, hpl⟩, hjs⟩ := hchk
 simp only [jKn, Bool.and_eq_true, Bool.not_eq_true'] at hbd
 have hbody : fn.body ≠ none := by
  intro hx; rw [hx] at hbd; cases hbd.1
 have hname : fn.name ≠ "runtime.NumGoroutine" := by simpa using hbd.2
 obtain ⟨h, L, hle, hst, hOw, hsat, hsz, hdf⟩ := hAt
 have htv := hsat t
 rw [ht] at htv
 obtain ⟨cap, hv, hcap⟩ := htv
 have hv : a.eval (.tmp t) = .func (.func gf) #[] cap.toArray := hv
 refine jT6 ?_
 obtain ⟨fnid, hfnid⟩ : ∃ fnid, fnid = f := ⟨_, rfl⟩
 rw [← hfnid]
 obtain ⟨rec0, hrec0⟩ : ∃ rec0 : Loop, rec0 = { state := .ready, pending := none, fn := fnid, tmps := a.tmps, params := ps.toArray, assign, body, defers := w.heap.size } := ⟨_, rfl⟩
 obtain ⟨D, hD⟩ : ∃ D, w.heap.size = D := ⟨_, rfl⟩
 obtain ⟨l, hl⟩ : ∃ l, w.heap.size + 1 = l := ⟨_, rfl⟩
 refine ⟨w.heap.size + 1, [mark w.heap.size], (w.alloc (.deferred (some []))).alloc (.loop rec0), { target := .fn (.func gf) cap.toArray, args := #[.func (.yield (w.heap.size + 1)) #[] #[]] }, (w.alloc (.deferred (some []))).alloc (.loop rec0), gf,
  #[.func (.yield (w.heap.size + 1)) #[] #[]] ++ cap.toArray, (w.alloc (.deferred (some []))).alloc (.loop rec0), by rw [hrec0]; exact run_enterLoop_outer _ _ _ _ _, ?_, ?_, ?_⟩
 ·simp only [resolve, hv]
  simp [go_sem]
 ·simp [invoke, callFunc, hf, hname, hbody]
 -- the keys
 have hn3 : has (ks ++ gI) 4997 = false ∧ has (ks ++ gI) 4998 = false ∧ has (ks ++ gI) 4999 = false ∧ jG6 (ks ++ gI) = true := by
  simp only [jG6, has, Bool.and_eq_true, Bool.not_eq_true', Bool.or_eq_false_iff] at hnd
  exact ⟨hnd.1.2.2, hnd.2.1.2, hnd.2.2.1, hnd.2.2.2⟩
 have has_app : ∀ (x y : List Nat) (k : Nat), has (x ++ y) k = (has x k || has y k) := by
  intro x y k
  induction x with
  | nil => rfl
  | cons z x ih => simp only [List.cons_append, has, ih, Bool.or_assoc]
 have hdisj : ∀ k, has ks k = true → has gI k = true → False := by
  have : ∀ (x y : List Nat), jG6 (x ++ y) = true → ∀ k, has x k = true → has y k = true → False := by
   intro x
   induction x with
   | nil => intro y _ k h; cases h
   | cons z x ih =>
    intro y hn k h1 h2
    simp only [List.cons_append, jG6, Bool.and_eq_true, Bool.not_eq_true'] at hn
    simp only [has, Bool.or_eq_true] at h1
    rcases h1 with h1 | h1
    ·rw [jWp] at h1; subst h1
     rw [has_app, h2, Bool.or_true] at hn; cases hn.1
    ·exact ih y hn.2 k h1 h2
  exact this ks gI hn3.2.2.2
 have nodup_left : ∀ (x y : List Nat), jG6 (x ++ y) = true → jG6 x = true := by
  intro x
  induction x with
  | nil => intro y _; rfl
  | cons z x ih =>
   intro y hn
   simp only [List.cons_append, jG6, Bool.and_eq_true, Bool.not_eq_true'] at hn
   rw [has_app, Bool.or_eq_false_iff] at hn
   simp only [jG6, Bool.and_eq_true, Bool.not_eq_true']
   exact ⟨hn.1.1, ih y hn.2⟩
 have hks' : has ks 4997 = false ∧ has ks 4998 = false ∧ has ks 4999 = false ∧ jG6 ks = true := by
  have h1 := hn3.1; have h2 := hn3.2.1; have h3 := hn3.2.2.1
  rw [has_app, Bool.or_eq_false_iff] at h1 h2 h3
  exact ⟨h1.1, h2.1, h3.1, nodup_left _ _ hn3.2.2.2⟩
 have hgI' : has gI 4997 = false ∧ has gI 4998 = false ∧ has gI 4999 = false := by
  have h1 := hn3.1; have h2 := hn3.2.1; have h3 := hn3.2.2.1
  rw [has_app, Bool.or_eq_false_iff] at h1 h2 h3
  exact ⟨h1.2, h2.2, h3.2⟩
 have nd : ∀ {s : S} {kes : KE} (r : Loop), QOk (Qq s) kes → jTt ((4998, jZd l r) :: (4999, jVj D) :: kes) = true := by
  intro s kes r hq
  refine qWm ?_
  have h1 := (qXl hq).trans (hks s)
  simp only [List.map_cons, h1, jG6, has, hks'.2.1, hks'.2.2.1, hks'.2.2.2]
  rfl
 -- the state of the loop as an entry
 obtain ⟨recOf, hrecOf⟩ : ∃ recOf : S × Option Nat → Loop, recOf = fun x => match pz x with | some _ => jF7 rec0 | none => (match x.2 with | none => rec0 | some k => { rec0 with state := .done, pending := cdOf (js.getD k .normal) }) := ⟨_, rfl⟩
 obtain ⟨YE, hYE⟩ : ∃ YE : S × Option Nat → Ent → Prop, YE = fun x e => (∀ k, x.2 = some k → k < m) ∧ ∃ kes, QOk (Qq x.1) kes ∧ jSa ((4998, jZd l (recOf x)) :: (4999, jVj D) :: kes) ∧ e = jGu ((4998, jZd l (recOf x)) :: (4999, jVj D) :: kes) := ⟨_, rfl⟩
 have lkQ : ∀ {s : S} {kes : KE} (r : Loop) {k : Nat}, QOk (Qq s) kes → has ks k = false → k ≠ 4998 → k ≠ 4999 → lkE ((4998, jZd l r) :: (4999, jVj D) :: kes) k = none := by
  intro s kes r k hq hk h8 h9
  have h1 := jAb (l := kes) (k := k)
  rw [(qXl hq).trans (hks s), hk] at h1
  have n8 : Nat.beq 4998 k = false := by rw [Bool.eq_false_iff, Ne, jWp]; exact fun x => h8 x.symm
  have n9 : Nat.beq 4999 k = false := by rw [Bool.eq_false_iff, Ne, jWp]; exact fun x => h9 x.symm
  simp only [lkE, n8, n9, cond_false]
  cases hl : lkE kes k with
  | none => rfl
  | some e => rw [hl] at h1; cases h1
 have lkQ2 : ∀ {kes : KE} (r : Loop) {k : Nat}, k ≠ 4998 → k ≠ 4999 → lkE ((4998, jZd l r) :: (4999, jVj D) :: kes) k = lkE kes k := by
  intro kes r k h8 h9
  have n8 : Nat.beq 4998 k = false := by rw [Bool.eq_false_iff, Ne, jWp]; exact fun x => h8 x.symm
  have n9 : Nat.beq 4999 k = false := by rw [Bool.eq_false_iff, Ne, jWp]; exact fun x => h9 x.symm
  simp only [lkE, n8, n9, cond_false]
 have ne8 : ∀ {k : Nat}, has ks k = true → k ≠ 4997 ∧ k ≠ 4998 ∧ k ≠ 4999 := fun {k} hk => ⟨fun e => (by rw [e, hks'.1] at hk; cases hk), fun e => (by rw [e, hks'.2.1] at hk; cases hk), fun e => (by rw [e, hks'.2.2.1] at hk; cases hk)⟩
 have ne8I : ∀ {k : Nat}, has gI k = true → k ≠ 4997 ∧ k ≠ 4998 ∧ k ≠ 4999 := fun {k} hk => ⟨fun e => (by rw [e, hgI'.1] at hk; cases hk), fun e => (by rw [e, hgI'.2.1] at hk; cases hk), fun e => (by rw [e, hgI'.2.2] at hk; cases hk)⟩
 -- the start
 have hst1 := hst.own_new (.deferred (some [])) 4999 (jVj D) (by intro c hc; simp [jVj] at hc; rw [hc, hD]) (by show World.mem _ D = _; rw [← hD]; exact jHw _ _)
 have hst2 := hst1.own_new (.loop rec0) 4998 (jZd l rec0) (by intro c hc; simp [jZd] at hc; rw [hc, ← hl]; simp) (by show World.mem _ l = _; rw [← hl]; have := jHw (w.alloc (.deferred (some []))) (.loop rec0); rwa [World.size_alloc] at this)
 obtain ⟨kes, hk1, hk2, hk3⟩ := jSw hOw hQ0 (hG s0)
 have hkm : ∀ p ∈ kes, has ks p.1 = true := by
  intro p hp
  have := jAb (l := kes) (k := p.1)
  rw [hk1.trans (hks s0), jN3 (k := p.1) (e := p.2) hp] at this
  exact this
 have hL2 : ∀ p ∈ ((4998, jZd l rec0) :: (4999, jVj D) :: kes), (set1 (set1 L 4999 (jVj D)) 4998 (jZd l rec0)) p.1 = some p.2 := by
  intro p hp
  rcases List.mem_cons.1 hp with rfl | hp
  ·simp [set1]
  ·rcases List.mem_cons.1 hp with rfl | hp
   ·simp [set1]
   ·have h1 := ne8 (hkm p hp)
    simp [set1, h1.2.1, h1.2.2, hk3 p hp]
 have hdj := qJ4 hst2 hL2 (nd rec0 hk2)
 have hst3 := hst2.jGu 4997 hL2
 have hcap' : (#[.func (.yield (w.heap.size + 1)) #[] #[]] ++ cap.toArray : Array Value) = (Value.func (.yield l) #[] #[] :: cap).toArray := by rw [← hl]; apply Array.ext'; simp
 rw [hcap']
 -- a round
 have hyl : YlOkP P A YE (yl g m) pz h l := by
  intro i x x' b hY κ' B' L' h1 w1 vs e hle1 hr1 hye hlen hargs
  subst hYE
  obtain ⟨xs, xj⟩ := x
  have hxj : xj = none := by
   cases xj with
   | none => rfl
   | some _ => cases hY
  subst hxj
  obtain ⟨_, kes1, hq1, hd1, rfl⟩ := hye
  have hro : recOf (xs, none) = rec0 := by rw [hrecOf]; simp only []; rw [hpz0]
  simp only [hro] at hd1 hr1
  cases hg : g xs i with
  | none => simp only [yl, hg] at hY; cases hY
  | some y =>
   obtain ⟨s', j'⟩ := y
   have hjb : x' = (s', j') ∧ b = j'.isNone ∧ ∀ k, j' = some k → k < m := by
    simp only [yl, hg] at hY
    cases j' with
    | none => cases hY; exact ⟨rfl, rfl, fun k hk => (by cases hk)⟩
    | some k =>
     simp only [] at hY
     cases hb : Nat.blt k m with
     | false => rw [hb] at hY; cases hY
     | true =>
      rw [hb] at hY; cases hY
      rw [Nat.blt_eq] at hb
      exact ⟨rfl, rfl, fun k' hk => (by cases hk; exact hb)⟩
   obtain ⟨rfl, rfl, hjlt⟩ := hjb
   have hr2 : St B' h1 (Sum.elim (fun k : Nat => if k = 4997 then some (jGu ((4998, jZd l rec0) :: (4999, jVj D) :: kes1)) else none) L') w1 := by
    refine hr1.reind (fun k => match k with | .inl _ => .inl () | .inr x => .inr x) ?_ ?_
    ·intro k e he
     cases k with
     | inr x => exact he
     | inl k =>
      simp only [Sum.elim_inl] at he
      split at he
      ·exact he
      ·cases he
    ·intro k k' e e' hk hk' hne
     cases k with
     | inr x => cases k' with
      | inr x' => intro he; exact hne (by rw [Sum.inr.inj he])
      | inl k' => intro he; cases he
     | inl k => cases k' with
      | inr x' => intro he; cases he
      | inl k' =>
       intro _
       simp only [Sum.elim_inl] at hk hk'
       split at hk
       ·split at hk'
        ·rename_i h1 h2; exact hne (by rw [h1, h2])
        ·cases hk'
       ·cases hk
   have hr3 := hr2.splitK (l := (4998, jZd l rec0) :: (4999, jVj D) :: kes1) (g := 4997) (by simp) hd1
   have hl1 : w1.heap[l]? = some (.loop rec0) := (hr3.own (k := Sum.inl 4998) (e := jZd l rec0) rfl).2
   have hfold : ∀ (t : Array Value), (ps.toArray.zip vs.toArray).foldl (fun tmps (x : Nat × Value) => tmps.setIfInBounds x.1 x.2) t = (ps.zip vs).foldl (fun t (p : Nat × Value) => t.setIfInBounds p.1 p.2) t := by
    intro t
    rw [← Array.foldl_toList]
    congr 1
    simp
   have hact : At B'.e h1 (mkG (qWb ps (A i) ++ Γl)) (mkO ((4998, qXf l rec0) :: (4999, jCj D) :: Qq xs)) L' n { tmps := (ps.toArray.zip vs.toArray).foldl (fun tmps (x : Nat × Value) => tmps.setIfInBounds x.1 x.2) a.tmps, defers := [] } w1 := by
    refine ⟨h1, _, Hle.refl h1, hr3.toE, ?_, ?_, ?_, rfl⟩
    ·intro k q hq
     simp only [mkO, lkO] at hq
     cases hb8 : Nat.beq 4998 k with
     | true => rw [hb8] at hq; cases hq; rw [jWp] at hb8; subst hb8; exact ⟨_, rfl, rfl⟩
     | false =>
      rw [hb8] at hq
      cases hb9 : Nat.beq 4999 k with
      | true => rw [hb9] at hq; cases hq; rw [jWp] at hb9; subst hb9; exact ⟨_, rfl, rfl⟩
      | false =>
       rw [hb9] at hq
       obtain ⟨e, he, hqv⟩ := qZ4 hq1 (hG xs) hq
       refine ⟨e, ?_, hqv _⟩
       have n8 : k ≠ 4998 := fun x => by rw [jWp.2 x.symm] at hb8; cases hb8
       have n9 : k ≠ 4999 := fun x => by rw [jWp.2 x.symm] at hb9; cases hb9
       simp only [lkQ2 rec0 n8 n9, he]
    ·intro s1
     have := qWn (h := h1) (ps := ps) (A := A i) (vs := vs) a.tmps hnp (fun p hp => by have := List.all_eq_true.1 hpl p hp; rw [Nat.blt_eq] at this; rw [hsz]; exact this) (hA i).1 (by rw [← hlen, (hA i).1]) (hA i).2 (fun s2 => by
      have h2 := hsat s2
      unfold jJd.at jJd.dv at h2
      rw [jR3 hdG] at h2
      exact (mkG Γl s2).mono hle1 h2) hargs s1
     unfold jJd.at jJd.dv
     have hdp : (mkG (qWb ps (A i) ++ Γl) s1).dep = none := by
      have : qG6 (qWb ps (A i) ++ Γl) = true := by
       have : ∀ (ps : List Nat) (A : List jJd), jVf A = true → qG6 (qWb ps A ++ Γl) = true := by
        intro ps
        induction ps with
        | nil => intro A _; exact hdG
        | cons p ps ih =>
         intro A hA
         cases A with
         | nil => exact hdG
         | cons f A =>
          simp only [jVf, Bool.and_eq_true] at hA
          simp only [qWb, List.cons_append, qG6, Bool.and_eq_true]
          exact ⟨hA.1, ih A hA.2⟩
       exact this ps (A i) (hA i).2
      exact jR3 this
     rw [hdp]
     show (mkG (qWb ps (A i) ++ Γl) s1).p h1 undef (Array.getD _ s1 undef)
     rw [hfold]; exact this
    ·show Array.size _ = n
     rw [hfold, qXt]; exact hsz
   have hyr := run_yield (P := P) (args := vs.toArray) hl1 (by rw [hrec0]; simp [← hlen, (hA i).1])
   rw [hrec0] at hyr
   cases hpx : pz (s', j') with
   | some ch =>
    refine ⟨fnid, _, assign, body, hyr, jCg trivial (by rw [hfnid]; exact hff) ?_⟩
    refine wpIn_mono (hround xs i s' j' hg κ' B'.e h1 L' l rec0 D _ w1 (by rw [hrec0]) hact) ?_
    intro e1 a1 w2 hq2
    cases e1 <;> first | exact hq2.elim | skip
    obtain ⟨w3, hb3, hbd3⟩ := hq2
    refine ⟨w3, hb3, wpIn_mono hbd3 ?_⟩
    rintro e2 a2 w4 ⟨hx2, Γ2, Λ2, ⟨h2, L2, hle2, hst4, hOw2, hsat2, _, hdf2⟩, h8, h9, hQ2⟩
    rw [hpx] at hx2
    have hx2 : e2 = .panic ch := hx2
    subst hx2
    obtain ⟨e8, hL8, rfl⟩ := hOw2 4998 _ h8
    obtain ⟨e9, hL9, rfl⟩ := hOw2 4999 _ h9
    obtain ⟨kes2, hk21, hk22, hk23⟩ := jSw hOw2 hQ2 (hG s')
    have hkm2 : ∀ p ∈ kes2, has ks p.1 = true := by
     intro p hp
     have := jAb (l := kes2) (k := p.1)
     rw [hk21.trans (hks s'), jN3 (k := p.1) (e := p.2) hp] at this
     exact this
    have hL5 : ∀ p ∈ ((4998, jZd l (jF7 rec0)) :: (4999, jVj D) :: kes2), L2 p.1 = some p.2 := by
     intro p hp
     rcases List.mem_cons.1 hp with rfl | hp
     ·exact hL8
     ·rcases List.mem_cons.1 hp with rfl | hp
      ·exact hL9
      ·exact hk23 p hp
    have hdj5 := qJ4 hst4 hL5 (nd (jF7 rec0) hk22)
    have hst6 := (hst4.jGu 4997 hL5).one 4997 (e := jGu ((4998, jZd l (jF7 rec0)) :: (4999, jVj D) :: kes2)) (by simp)
    have hrb : recOf (s', j') = jF7 rec0 := by rw [hrecOf]; simp only []; rw [hpx]
    exact ⟨ch, rfl, hdf2, h2, _, rfl, hle2, hst6.ofE, hjlt, kes2, hk22, by rw [hrb]; exact hdj5, by rw [hrb]⟩
   | none =>
    refine ⟨fnid, _, assign, body, hyr, roundIn_of_wpIn trivial ?_⟩
    refine wpIn_mono (hround xs i s' j' hg κ' B'.e h1 L' l rec0 D _ w1 (by rw [hrec0]) hact) ?_
    intro e1 a1 w2 hq2
    cases e1 <;> first | exact hq2.elim | skip
    obtain ⟨w3, hb3, hbd3⟩ := hq2
    refine ⟨w3, hb3, wpIn_mono hbd3 ?_⟩
    rintro e2 a2 w4 ⟨hx2, Γ2, Λ2, ⟨h2, L2, hle2, hst4, hOw2, hsat2, _, _⟩, h8, h9, hQ2⟩
    rw [hpx] at hx2
    have hx2 : xOf js j' = e2 := hx2
    obtain ⟨e8, hL8, rfl⟩ := hOw2 4998 _ h8
    obtain ⟨e9, hL9, rfl⟩ := hOw2 4999 _ h9
    obtain ⟨kes2, hk21, hk22, hk23⟩ := jSw hOw2 hQ2 (hG s')
    have hkm2 : ∀ p ∈ kes2, has ks p.1 = true := by
     intro p hp
     have := jAb (l := kes2) (k := p.1)
     rw [hk21.trans (hks s'), jN3 (k := p.1) (e := p.2) hp] at this
     exact this
    have fin : ∀ (jump : Option Code) (r' : Loop), r' = { jF7 rec0 with state := if jump.isNone then .ready else .done, pending := jump } → recOf (s', j') = r' → jump.isNone = j'.isNone →
      ∃ v w', (Instr.endRound l jump).run P w4 = .ok v w' ∧ ∃ h'' e', (Ending.returned v) = .returned (.bool j'.isNone) ∧ Hle h1 h'' ∧ St B' h'' (Sum.elim (fun _ : Unit => some e') L') w' ∧ ((∀ k, (s', j').2 = some k → k < m) ∧ ∃ kes, QOk (Qq (s', j').1) kes ∧ jSa ((4998, jZd l (recOf (s', j'))) :: (4999, jVj D) :: kes) ∧ e' = jGu ((4998, jZd l (recOf (s', j'))) :: (4999, jVj D) :: kes)) := by
     intro jump r' hr' hro' hji
     obtain ⟨hl4, hst5⟩ := qQv hst4 hL8 r'
     have hL5 : ∀ p ∈ ((4998, jZd l r') :: (4999, jVj D) :: kes2), (set1 L2 4998 (jZd l r')) p.1 = some p.2 := by
      intro p hp
      rcases List.mem_cons.1 hp with rfl | hp
      ·simp [set1]
      ·rcases List.mem_cons.1 hp with rfl | hp
       ·simp [set1, hL9]
       ·have h1 := ne8 (hkm2 p hp)
        simp [set1, h1.2.1, hk23 p hp]
     have hdj5 := qJ4 hst5 hL5 (nd r' hk22)
     have hst6 := (hst5.jGu 4997 hL5).one 4997 (e := jGu ((4998, jZd l r') :: (4999, jVj D) :: kes2)) (by simp)
     refine ⟨.bool jump.isNone, w4.putObj l (.loop r'), by have := run_endRound (P := P) jump hl4; rw [hr']; exact this, h2, _, by rw [hji], hle2, hst6.ofE, hjlt, kes2, hk22, ?_, ?_⟩
     ·show jSa ((4998, jZd l (recOf (s', j'))) :: _); rw [hro']; exact hdj5
     ·show _ = jGu ((4998, jZd l (recOf (s', j'))) :: _); rw [hro']
    cases j' with
    | none =>
     have : e2 = .normal := hx2.symm
     subst this
     obtain ⟨v, w5, hrun, hR⟩ := fin none rec0 (by rw [hrec0]; rfl) (by rw [hrecOf]; simp only []; rw [hpx]) rfl
     obtain ⟨h'', e', g1, g2⟩ := hR
     exact ⟨v, w5, hrun, h'', e', g1, g2⟩
    | some k =>
     have hx2 : js.getD k .normal = e2 := hx2
     have hkj := hpz1 s' k hpx (hjlt k rfl)
     obtain ⟨c, hc⟩ := jAu hjs hkj
     obtain ⟨v, w5, hrun, hR⟩ := fin (some c) { jF7 rec0 with state := .done, pending := some c } rfl (by rw [hrecOf]; simp only []; rw [hpx]; simp only []; rw [hc]; rfl) rfl
     rw [hx2] at hc
     cases e2 <;> cases hc
     ·obtain ⟨h'', e', g1, g2⟩ := hR
      exact ⟨v, w5, hrun, h'', e', g1, g2⟩
     ·obtain ⟨h'', e', g1, g2⟩ := hR
      exact ⟨v, w5, hrun, h'', e', g1, g2⟩
 -- the call
 have hpre : qJq ((5000, yE YE (s0, none)) :: preI) (fun k => (toC ((5000, yE YE (s0, none)) :: preI) (4997 :: gI) k).bind (fun k => if k = 4997 then some (jGu ((4998, jZd l rec0) :: (4999, jVj D) :: kes)) else if (lkE ((4998, jZd l rec0) :: (4999, jVj D) :: kes) k).isSome then none else (set1 (set1 L 4999 (jVj D)) 4998 (jZd l rec0)) k)) (plc fun k => (Value.func (.yield l) #[] #[] :: cap).getD k undef) := by
  refine qUk (N := []) (xs := []) (cap := Value.func (.yield l) #[] #[] :: cap) (h := h) (a := a) (post := Po.to (yE YE (s, j)) :: postI) (L := fun k => if k = 4997 then some (jGu ((4998, jZd l rec0) :: (4999, jVj D) :: kes)) else if (lkE ((4998, jZd l rec0) :: (4999, jVj D) :: kes) k).isSome then none else (set1 (set1 L 4999 (jVj D)) 4998 (jZd l rec0)) k) trivial (jUs.gh rfl Gh.yE (fun q hq => by cases hq; exact Gh.yE) hIk) ⟨⟨_, rfl, ?_⟩, ?_⟩ (fun k gg hk => by rw [hk]; rfl) (hcc _)
  ·subst hYE
   have hro : recOf (s0, none) = rec0 := by rw [hrecOf]; simp only []; rw [hpz0]
   exact ⟨fun k hk => (by cases hk), kes, hk2, (by rw [hro]; exact hdj), (by rw [hro])⟩
  ·have : ∀ (pre : List (Nat × jZr)) (gs : List Nat), HasQ Λ (qUn pre gs) → (∀ k, has gs k = true → has gI k = true) → qG3 (qUn pre gs) (fun k => if k = 4997 then some (jGu ((4998, jZd l rec0) :: (4999, jVj D) :: kes)) else if (lkE ((4998, jZd l rec0) :: (4999, jVj D) :: kes) k).isSome then none else (set1 (set1 L 4999 (jVj D)) 4998 (jZd l rec0)) k) a := by
    intro pre
    induction pre with
    | nil => intro gs _ _; trivial
    | cons x r ih =>
     obtain ⟨k0, q0⟩ := x
     intro gs hq hm
     cases gs with
     | nil => trivial
     | cons g0 gs =>
      refine ⟨?_, ih gs hq.2 (fun k hk => hm k (by simp only [has, hk, Bool.or_true]))⟩
      obtain ⟨e, he, hqe⟩ := hOw g0 q0 hq.1
      have hg0 : has gI g0 = true := hm g0 (by simp only [has, Nat.beq_refl, Bool.true_or])
      have hne := ne8I hg0
      have hk0 : has ks g0 = false := by
       cases hx : has ks g0 with
       | false => rfl
       | true => exact (hdisj g0 hx hg0).elim
      refine ⟨e, ?_, hqe⟩
      simp only [lkQ rec0 hk2 hk0 hne.2.1 hne.2.2]
      simp [hne.1, set1, hne.2.1, hne.2.2, he]
   exact this preI gI hI (fun k hk => hk)
 refine (callsE (hit YE) (hcc _) hst3 (by simp [hcap.1]) hpre ?_).mono ?_
 ·intro j1 g1 u hg1 hu
  cases j1 with
  | zero => cases hg1; cases hu; exact ⟨l, rfl, hyl⟩
  | succ j1 => exact hcap.2 j1 g1 u (by simpa using hg1) (by simpa using hu)
 rintro en w5 ⟨h5, E5, hen, hle5, hst5, hpost⟩
 obtain ⟨⟨e5, hE5, hye5⟩, hpostI⟩ := hpost
 have hye5 : YE (s, j) e5 := hye5
 subst hYE
 obtain ⟨hjlt, kes5, hq5, hd5, rfl⟩ := hye5
 have h47 : ofC ((5000, yE (fun x e => (∀ k, x.2 = some k → k < m) ∧ ∃ kes, QOk (Qq x.1) kes ∧ jSa ((4998, jZd l (recOf x)) :: (4999, jVj D) :: kes) ∧ e = jGu ((4998, jZd l (recOf x)) :: (4999, jVj D) :: kes)) (s0, none)) :: preI) (4997 :: gI) 4997 = some 5000 := rfl
 have hst6 := hst5.splitK (l := (4998, jZd l (recOf (s, j))) :: (4999, jVj D) :: kes5) (g := 4997) (by simp only [h47]; exact hE5) hd5
 obtain ⟨hl6, hst7⟩ := qQv hst6 (k := 4998) (l := l) (r := recOf (s, j)) rfl { recOf (s, j) with state := .exhausted }
 have hAtE : ∀ (w6 : World) (r6 : Loop), St B h5 (Sum.elim (set1 (fun k => match lkE ((4998, jZd l (recOf (s, j))) :: (4999, jVj D) :: kes5) k with | some e => some e | none => if k = 4997 then none else (match ofC ((5000, yE (fun x e => (∀ k, x.2 = some k → k < m) ∧ ∃ kes, QOk (Qq x.1) kes ∧ jSa ((4998, jZd l (recOf x)) :: (4999, jVj D) :: kes) ∧ e = jGu ((4998, jZd l (recOf x)) :: (4999, jVj D) :: kes)) (s0, none)) :: preI) (4997 :: gI) k with | some k => E5 k | none => (if k = 4997 then some (jGu ((4998, jZd l rec0) :: (4999, jVj D) :: kes)) else if (lkE ((4998, jZd l rec0) :: (4999, jVj D) :: kes) k).isSome then none else (set1 (set1 L 4999 (jVj D)) 4998 (jZd l rec0)) k))) 4998 (jZd l r6)) F) w6 → At (B.d (mark D)) h0 (mkG Γl) (mkO ((4999, jCj D) :: (Qq s ++ qX3 preI gI postI))) F n { a with defers := [mark w.heap.size] ++ a.defers } w6 := by
  intro w6 r6 hst7
  refine ⟨h5, _, hle.trans hle5, hst7.toD, ?_, ?_, hsz, by rw [hD, hdf]; rfl⟩
  ·intro k q hq
   simp only [mkO, lkO] at hq
   cases hb9 : Nat.beq 4999 k with
   | true => rw [hb9] at hq; cases hq; rw [jWp] at hb9; subst hb9; exact ⟨jVj D, rfl, rfl⟩
   | false =>
    rw [hb9, cond_false] at hq
    have hq : mkO (Qq s ++ qX3 preI gI postI) k = some q := hq
    rw [qZm] at hq
    cases hm : mkO (Qq s) k with
    | some q1 =>
     rw [hm] at hq; cases hq
     have hhk := qW3 hm
     rw [hks s] at hhk
     have hne := ne8 hhk
     obtain ⟨e, he, hqv⟩ := qZ4 hq5 (hG s) hm
     refine ⟨e, ?_, hqv _⟩
     simp only [set1, hne.2.1, if_false, lkQ2 _ hne.2.1 hne.2.2, he]
    | none =>
     rw [hm] at hq
     have hq : mkO (qX3 preI gI postI) k = some q := hq
     have hgk := qK8 (qW3 hq)
     have hne := ne8I hgk
     have hk0 : has ks k = false := by
      cases hx : has ks k with
      | false => rfl
      | true => exact (hdisj k hx hgk).elim
     have hcc' := hcc (yE (fun x e => (∀ k, x.2 = some k → k < m) ∧ ∃ kes, QOk (Qq x.1) kes ∧ jSa ((4998, jZd l (recOf x)) :: (4999, jVj D) :: kes) ∧ e = jGu ((4998, jZd l (recOf x)) :: (4999, jVj D) :: kes)) (s0, none))
     simp only [jTw, Bool.and_eq_true] at hcc'
     obtain ⟨e, k', h1, h2, h3⟩ := qY4 hpostI hIk hcc'.2 hq
     refine ⟨e, ?_, h3 _⟩
     have n7 : Nat.beq 4997 k = false := by rw [Bool.eq_false_iff, Ne, jWp]; exact fun x => hne.1 x.symm
     simp only [set1, hne.2.1, if_false, lkQ _ hq5 hk0 hne.2.1 hne.2.2, hne.1, ofC, n7, cond_false, h1, h2]
  ·intro s1
   have h2 := (mkG Γl s1).mono hle5 (hsat s1)
   unfold jJd.at jJd.dv at h2 ⊢
   rw [jR3 hdG] at h2 ⊢
   exact h2
 rw [hl]
 have hd0 := hdone D
 cases hpx : pz (s, j) with
 | some ch =>
  rw [hpx] at hen
  have hen : en = .panicked ch := hen
  subst hen
  rw [hpx] at hd0
  exact hd0 _ _ (hAtE w5 (recOf (s, j)) (by rw [jBn (show _ = some (jZd l (recOf (s, j))) from rfl)]; exact hst6))
 | none =>
  rw [hpx] at hen hd0
  obtain ⟨v, rfl, _⟩ : ∃ u, en = .returned u ∧ fT0.p h5 undef u := hen
  have hd0 : ∀ (a : Act) (w : World), _ → Qx (xOf js j) a w := hd0
  have hbusy : (recOf (s, j)).state ≠ .busy := by
   rw [hrecOf]
   simp only []
   rw [hpx]
   cases j with
   | none => rw [hrec0]; simp
   | some k => simp
  have hend := run_endLoop (P := P) hl6 hbusy
  have hA := hAtE _ _ hst7
  cases j with
  | none => exact ⟨none, _, (by rw [hend]; congr 1; rw [hrecOf]; simp only []; rw [hpx]; rw [hrec0]), hd0 _ _ hA⟩
  | some k =>
   have hkj := hpz1 s k hpx (hjlt k rfl)
   obtain ⟨c, hc⟩ := jAu hjs hkj
   exact ⟨some c, _, (by rw [hend]; congr 1; rw [hrecOf]; simp only []; rw [hpx]; exact hc), qGs hc (hd0 _ _ hA)⟩
end
end Go.KB
namespace Go.KB
section
variable {P : Program}
def RecD (P : Program) (d : Deferred) (ch : List PanicEntry) (w : World) (K : World → Prop) : Prop :=
 ∃ fv cap f args, d.target = .fn fv cap ∧ (invoke d.target d.args).run P w = .ok (.enter f args) w ∧ CallsDIn (rdF none) 0 P f args (.panicking ch) w fun e u' w' => (∃ v, e = .returned v) ∧ settle u' = .returning ∧ K w'
def qUt (P : Program) (fn : Func) (R : Ending → World → Prop) : Exit → Act → World → Prop
 | .panic ch, a, w => ∃ d, a.defers = [d] ∧ RecD P d ch w fun w' => ∃ v, (results fn a.tmps).run P w' = .ok v w' ∧ R (.returned v) w'
 | e, a, w => jB2 P fn R e a w
theorem CallsDIn.mono' {F : Fence} {n : Nat} {f : FuncId} {args : Array Value} {u : FrameMode} {w : World} {R R' : Ending → FrameMode → World → Prop} (h : CallsDIn F n P f args u w R) (hr : ∀ e u w, R e u w → R' e u w) : CallsDIn F n P f args u w R' :=
 ⟨h.1, fun c cs hu hroom => let ⟨e, u', w', fr, r, rest⟩ := h.2 c cs hu hroom; ⟨e, u', w', fr, hr _ _ _ r, rest⟩⟩
theorem jAc {f : FuncId} {w : World} {fn : Func} {c : Code} {args : Array Value} {R : Ending → World → Prop} (hf : P.funcs[f]? = some fn) (hb : fn.body = some c)
  (h : c.wpF f P (qUt P fn R) { tmps := args ++ Array.replicate (fn.ntmps - args.size) undef, defers := [] } w) : Calls P f args w R := by
 refine jPt hf hb h fun e a w hq => ?_
 cases e with
 | normal => exact jB2.toM hq
 | ret => exact jB2.toM hq
 | panic ch =>
  obtain ⟨d, h1, fv, cap, f', args', h2, h3, h4⟩ := hq
  simp only [bodyPostM]
  rw [h1]
  refine ⟨by simp, .inr ⟨fun x => absurd x (by simp [rdF]), fv, cap, f', args', h2, h3, fun _ _ => trivial, CallsDIn.mono' h4 ?_⟩⟩
  rintro e u' w' ⟨⟨v0, rfl⟩, hs, v, h5, h6⟩
  show LeavesInM (rdF none) 0 P fn a.tmps R [] (settle u') w'
  rw [hs]
  exact ⟨v, h5, h6⟩
 | exit id => exact hq.elim
 | goto l => exact hq.elim
 | outgrown => exact hq.elim
def qXk (P : Program) (fn : Func) {κ : Type} (B : Base) (h0 : H) (F : κ → Option Ent) (post : jJd) : Exit → Act → World → Prop :=
 fun e a w => B.df = [] → qUt P fn (fun e w' => ∃ v h', e = .returned v ∧ Hle h0 h' ∧ St B h' F w' ∧ post.p h' undef v) e a w
theorem qWe {n : Nat} {f : FuncId} {fn : Func} {c : Code} {args : List jJd} {post : jJd} (hf : P.funcs[f]? = some fn) (hb : fn.body = some c) (hn : fn.ntmps = n) (hchk : (Nat.ble args.length n && jVf args) = true)
  (hwp : ∀ (κ : Type) (B : Base) (h0 : H) (F : κ → Option Ent) (a : Act) (w : World), At B h0 (mkG (jP5 0 args)) (mkO []) F n a w → c.wpF f P (qXk P fn B h0 F post) a w) : FnOk P f args post := by
 intro κ B L h w vs hst hl hargs
 rw [Bool.and_eq_true, Nat.ble_eq] at hchk
 obtain ⟨hlen, hdp⟩ := hchk
 have hdep := jZq hdp
 have hAt : At B.e h (mkG (jP5 0 args)) (mkO []) L n { tmps := vs.toArray ++ Array.replicate (fn.ntmps - vs.toArray.size) undef, defers := [] } w := by
  refine ⟨h, fun _ => none, Hle.refl h, (St.sumNone hst).toE, fun s q hq => (by cases hq), ?_, ?_, rfl⟩
  ·intro s
   rcases jDh args 0 s with h1 | ⟨j, g, h1, h2, h3⟩
   ·show (lkF (jP5 0 args) s).at _ _ _; rw [h1]; exact trivial
   ·show (lkF (jP5 0 args) s).at _ _ _; rw [h3]
    have hj := (List.getElem?_eq_some_iff.1 h1).1
    have hv : vs[j]? = some vs[j] := List.getElem?_eq_getElem (by omega)
    have := hargs j g _ h1 hv
    unfold jJd.at jJd.dv
    rw [hdep g (List.mem_of_getElem? h1)]
    have he : Act.gt { tmps := vs.toArray ++ Array.replicate (fn.ntmps - vs.toArray.size) undef, defers := [] } s = vs[j] := by
     rw [h2, Nat.zero_add]
     simp only [Act.gt, Array.getD_eq_getD_getElem?]
     rw [Array.getElem?_append_left (by simp; omega)]
     simp [hv]
    rw [he]; exact this
  ·simp; omega
 refine jAc hf hb (qXh (hwp _ B.e h L _ w hAt) fun e a w hq => ?_)
 have tr : ∀ {e : Ending} {w : World}, (∃ v h', e = .returned v ∧ Hle h h' ∧ St B.e h' L w ∧ post.p h' undef v) → ∃ v h', e = .returned v ∧ Hle h h' ∧ St B h' L w ∧ post.p h' undef v := fun ⟨v, h', he, hl, hs, hp⟩ => ⟨v, h', he, hl, hs.ofE, hp⟩
 have hq := hq rfl
 cases e with
 | normal =>
  have hq' : jB2 P fn (fun e w' => ∃ v h', e = .returned v ∧ Hle h h' ∧ St B.e h' L w' ∧ post.p h' undef v) .normal a w := hq
  exact hq'.mono fun e w => tr
 | ret =>
  have hq' : jB2 P fn (fun e w' => ∃ v h', e = .returned v ∧ Hle h h' ∧ St B.e h' L w' ∧ post.p h' undef v) .ret a w := hq
  exact hq'.mono fun e w => tr
 | panic ch =>
  obtain ⟨d, h1, fv, cap, f', args', h2, h3, h4⟩ := hq
  refine ⟨d, h1, fv, cap, f', args', h2, h3, CallsDIn.mono' h4 ?_⟩
  rintro e u' w' ⟨h5, hs, v, h6, h7⟩
  exact ⟨h5, hs, v, h6, tr h7⟩
 | exit id => exact hq.elim
 | goto l => exact hq.elim
 | outgrown => exact hq.elim
theorem qZr {f : FuncId} {fn : Func} {id d : Nat} {o : Oper} {rest : Code} {args : Array Value} {w : World} {v : Value} {K : World → Prop} (hf : P.funcs[f]? = some fn) (hb : fn.body = some (Code.seq (Code.region id #[o] false) rest)) (hr : fn.results = #[])
  (ho : o.op = .call { callee := .builtin .recover, args := #[], argTypes := #[] }) (hd : o.dst = some d) (hg : o.guard = none)
  (h : rest.wpK none P (fun e a w' => e = .normal ∧ a.defers = [] ∧ K w') (({ tmps := args ++ Array.replicate (fn.ntmps - args.size) undef, defers := [] } : Act).put (some d) v) w) :
  CallsDIn (rdF none) 0 P f args (.panicking [{ v, recovered := false }]) w fun e u' w' => (∃ v, e = .returned v) ∧ settle u' = .returning ∧ K w' := by
 refine callsDIn_of_wpSIn hf hb trivial fun c₀ cs hu => ?_
 apply wpSIn_seq
 apply wpSIn_region
 have hrun : ∀ ev, (execOp ev o).run P w = .ok .recover w := by
  intro ev
  simp [execOp, ho, resolve, invoke, go_sem]
 have hrec : recoverD (c₀ :: cs) = some (v, { c₀ with mode := .panicking [{ v, recovered := true }] } :: cs) := by
  simp [recoverD, hu]
 simp only [List.size_toArray, List.length_cons, List.length_nil, Nat.zero_add, List.range_one, wpOpsSIn, List.getElem?_toArray, List.getElem?_cons_zero]
 refine ⟨fun _ _ => trivial, ?_⟩
 rw [if_pos (show Region.wanted o _ = true by unfold Region.wanted; rw [hg])]
 rw [hrun]
 simp only [hrec, hd]
 refine wpSIn_of_wpIn rfl (wpIn_mono h ?_)
 rintro e a w' ⟨rfl, h1, h2⟩
 exact ⟨h1, _, rfl, .tuple #[], by simp [results, hr], ⟨_, rfl⟩, rfl, h2⟩
theorem qUa {l : List (Nat × jZr)} {L : Nat → Option Ent} {a a' : Act} (hg : GhL l) (h : jCx (mkO l) L a) : jCx (mkO l) L a' := by
 intro s q hq
 obtain ⟨e, h1, h2⟩ := h s q hq
 refine ⟨e, h1, ?_⟩
 have key : ∀ {l : List (Nat × jZr)}, GhL l → ∀ {s q}, mkO l s = some q → Gh q := by
  intro l
  induction l with
  | nil => intro _ s q h; cases h
  | cons x r ih =>
   obtain ⟨k, q0⟩ := x
   intro hg s q hq
   simp only [mkO, lkO] at hq
   cases hb : Nat.beq k s with
   | true => rw [hb] at hq; cases hq; exact hg.1
   | false => rw [hb] at hq; exact ih hg.2 hq
 exact key hg hq _ _ _ h2
end
section
variable {P : Program} {o : Oper} {N : List (Nat × jJd)} {α : Type}
theorem qVl {T T' : TypeId} {x : Operand} {t : TypeId} {v : Value} (hT : P.underlying T = some (.interface (P.methodsAt T))) (ho : o.op = .binOp .eql T x (.const .nilIface) T') (hx : jQf N x (fIs (.iface t v))) : jXh P o N [] (fV Rep.bool false) [] :=
 qQ4 (q := true) hT ho fun h a q => by
  have hv : a.eval x = .iface t v := hx h a q
  rw [hv]; exact jT8
theorem qZk {T X : TypeId} {r : Rep α} {y : α} {x : Operand} {v : Value} (hr : ∀ w, (Instr.typeAssert (.iface T v) X T true).run P w = .ok (.tuple #[v, .bool true]) w) (ho : o.op = .typeAssert x X T true) (hx : jQf N x (fIs (.iface T v))) (hv : ∀ h, r.val h v y) : jXh P o N [] (fT2 (fV r y) (fV Rep.bool true)) [] :=
 jXh.ofRun fun h a w _ q => by
  have hv' : a.eval x = .iface T v := hx h a q
  exact ⟨.tuple #[v, .bool true], by simp only [execOp, ho, hv', hr, Sem.run_bind, Result.andThen_ok, Sem.run_pure], v, .bool true, rfl, hv h, jZz.2 rfl⟩
end
end Go.KB
