/- Branches, loops, calls, returns. No condition. -/
import Derived.Test.YtbedbjphickpaaaKStr
namespace Go.KB
variable {P : Program} {κ : Type} {B : Base} {h0 : H} {Γ : Ctx} {Λ : Own} {F : κ → Option Ent} {n : Nat} {a : Act} {w : World} {Q : Exit → Act → World → Prop}

/- fewer facts -/
theorem At.less {Γ' : Ctx} {Λ' : Own} (x : At B h0 Γ Λ F n a w) (hG : ∀ s, Γ' s = Γ s ∨ Γ' s = Fact.triv) (hO : ∀ s, Λ' s = Λ s ∨ Λ' s = none) : At B h0 Γ' Λ' F n a w := by
  obtain ⟨h, L, hle, hst, hOw, hsat, r⟩ := x
  refine ⟨h, L, hle, hst, ?_, ?_, r⟩
  · intro s q hq
    rcases hO s with h1 | h1 <;> rw [h1] at hq
    · exact hOw s q hq
    · cases hq
  · intro s
    rcases hG s with h1 | h1 <;> rw [h1]
    · exact hsat s
    · exact trivial
def pickG (Γ : Ctx) : List Nat → List (Nat × Fact)
  | [] => []
  | s :: r => (s, Γ s) :: pickG Γ r
def pickO (Λ : Own) : List Nat → List (Nat × OwnP)
  | [] => []
  | s :: r => match Λ s with | some e => (s, e) :: pickO Λ r | none => pickO Λ r
theorem mkG_pick (Γ : Ctx) (l : List Nat) (s : Nat) : mkG (pickG Γ l) s = Γ s ∨ mkG (pickG Γ l) s = Fact.triv := by
  induction l with
  | nil => exact .inr rfl
  | cons x r ih =>
    simp only [mkG, pickG, lkF] at ih ⊢
    cases hb : Nat.beq x s with
    | true => rw [nbeq] at hb; subst hb; exact .inl rfl
    | false => exact ih
theorem mkO_pick (Λ : Own) (l : List Nat) (s : Nat) : mkO (pickO Λ l) s = Λ s ∨ mkO (pickO Λ l) s = none := by
  induction l with
  | nil => exact .inr rfl
  | cons x r ih =>
    simp only [mkO, pickO] at ih ⊢
    cases hl : Λ x with
    | none => exact ih
    | some e =>
      simp only [lkO]
      cases hb : Nat.beq x s with
      | true => rw [nbeq] at hb; subst hb; exact .inl hl.symm
      | false => exact ih
theorem At.pick (x : At B h0 Γ Λ F n a w) (l m : List Nat) : At B h0 (mkG (pickG Γ l)) (mkO (pickO Λ m)) F n a w := x.less (mkG_pick Γ l) (mkO_pick Λ m)

theorem At.fact (x : At B h0 Γ Λ F n a w) (s : Nat) : ∃ h, Hle h0 h ∧ (Γ s).at h a s := let ⟨h, _, hl, _, _, hs, _⟩ := x; ⟨h, hl, hs s⟩
theorem At.bool {b : Bool} (x : At B h0 Γ Λ F n a w) (s : Nat) (hs : Γ s = fV Rep.bool b) : a.eval (.tmp s) = .bool b := by
  obtain ⟨h, _, hf⟩ := x.fact s
  rw [hs] at hf
  exact val_bool.1 hf

theorem wp_if {s : Nat} {b : Bool} {x y : Code} (hAt : At B h0 Γ Λ F n a w) (hs : Γ s = fV Rep.bool b) (ht : b = true → x.wp P Q a w) (hf : b = false → y.wp P Q a w) : (Code.cond (.tmp s) x y).wp P Q a w :=
  wp_cond_split (hAt.bool s hs) ht hf

/- pure loops: the state is carried until something is handed out -/
def loopN {S O : Type} (f : S → Option (S ⊕ O)) : Nat → S → Option O
  | 0, _ => none
  | n + 1, s => match f s with
    | none => none
    | some (.inl s') => loopN f n s'
    | some (.inr o) => some o
theorem wp_loopN {S O : Type} {f : S → Option (S ⊕ O)} {body : Code} (Inv : S → Act → World → Prop) (Post : O → Exit → Act → World → Prop)
    (hb : ∀ s r a w, f s = some r → Inv s a w → body.wp P (fun e a' w' => match r with | .inl s' => e = .normal ∧ Inv s' a' w' | .inr o => e ≠ .normal ∧ Post o e a' w') a w) :
    ∀ (N : Nat) (s : S) (o : O) (a : Act) (w : World), loopN f N s = some o → Inv s a w → (Code.loop body).wp P (Post o) a w := by
  intro N s o a w hl hI b k cs
  have key : ∀ N s a w, loopN f N s = some o → Inv s a w →
      ∃ e a' w', Post o e a' w' ∧ Arrives P (lone (b.at a (.code body :: .inLoop body :: k)) cs w) b k cs e a' w' := by
    intro N
    induction N with
    | zero => intro s a w h; cases h
    | succ N ih =>
      intro s a w h hI
      simp only [loopN] at h
      cases hr : f s with
      | none => rw [hr] at h; cases h
      | some r =>
        rw [hr] at h
        obtain ⟨e, a₁, w₁, hq, harr⟩ := hb s r a w hr hI b (.inLoop body :: k) cs
        cases r with
        | inl s' =>
          obtain ⟨rfl, hI'⟩ := hq
          obtain ⟨e₂, a₂, w₂, hq₂, harr₂⟩ := ih s' a₁ w₁ h hI'
          exact ⟨e₂, a₂, w₂, hq₂, .of_steps (Steps.trans harr (.one step_inLoop)) harr₂⟩
        | inr o' =>
          cases h
          obtain ⟨hne, hp⟩ := hq
          exact ⟨e, a₁, w₁, hp, .pass (x := .inLoop body) rfl (fun _ _ => .inl hne) harr⟩
  obtain ⟨e, a', w', hq, harr⟩ := key N s a w hl hI
  exact ⟨e, a', w', hq, .of_steps (.one step_loop) harr⟩

/- a pure step that may fail -/
theorem bindE {X Y : Type} {m : Option X} {k : X → Option Y} {r : Y} (h : m.bind k = some r) : ∃ x, m = some x ∧ k x = some r := by
  cases m with
  | none => cases h
  | some x => exact ⟨x, rfl, h⟩
theorem iteT {X : Type} {b : Bool} {x y r : X} (hb : b = true) (h : (bif b then x else y) = r) : x = r := by subst hb; exact h
theorem iteF {X : Type} {b : Bool} {x y r : X} (hb : b = false) (h : (bif b then x else y) = r) : y = r := by subst hb; exact h

/- a piece of code that only falls through, with what holds behind it -/
theorem wp_mid {x : Code} (R : Act → World → Prop) {K : Act → World → Prop} (h1 : x.wp P (fun e a w => e = .normal ∧ R a w) a w) (h2 : ∀ a w, R a w → K a w) : x.wp P (Exit.then K Q) a w :=
  wp_mono h1 (fun e a w ⟨he, hr⟩ => by subst he; exact h2 a w hr)

def depNone : List Fact → Bool
  | [] => true
  | f :: r => f.dep.isNone && depNone r
theorem depNone_spec : ∀ {l : List Fact}, depNone l = true → ∀ g ∈ l, g.dep = none := by
  intro l
  induction l with
  | nil => intro _ g h; cases h
  | cons f r ih =>
    intro h g hg
    simp only [depNone, Bool.and_eq_true] at h
    rcases List.mem_cons.1 hg with rfl | hg
    · cases hx : g.dep with
      | none => rfl
      | some d => rw [hx] at h; cases h.1
    · exact ih h.2 g hg
/- functions -/
def FnOk (P : Program) (f : FuncId) (args : List Fact) (post : Fact) : Prop :=
  ∀ (κ : Type) (B : Base) (L : κ → Option Ent) (h : H) (w : World) (vs : List Value), St B h L w → args.length = vs.length → (∀ (i : Nat) (g : Fact) (v : Value), args[i]? = some g → vs[i]? = some v → g.p h undef v) →
    Calls P f vs.toArray w (fun e w' => ∃ v h', e = .returned v ∧ Hle h h' ∧ St B h' L w' ∧ post.p h' undef v)

def RetPost (P : Program) (fn : Func) {κ : Type} (B : Base) (h0 : H) (F : κ → Option Ent) (post : Fact) : Exit → Act → World → Prop :=
  bodyPost P fn (fun e w' => ∃ v h', e = .returned v ∧ Hle h0 h' ∧ St B h' F w' ∧ post.p h' undef v)

def argG : Nat → List Fact → List (Nat × Fact)
  | _, [] => []
  | i, f :: r => (i, f) :: argG (i + 1) r
theorem argG_spec : ∀ (l : List Fact) (i s : Nat), lkF (argG i l) s = Fact.triv ∨ ∃ j f, l[j]? = some f ∧ s = i + j ∧ lkF (argG i l) s = f := by
  intro l
  induction l with
  | nil => intro i s; exact .inl rfl
  | cons f r ih =>
    intro i s
    simp only [argG, lkF]
    cases hb : Nat.beq i s with
    | true => rw [nbeq] at hb; subst hb; exact .inr ⟨0, f, rfl, rfl, rfl⟩
    | false =>
      rcases ih (i + 1) s with h1 | ⟨j, g, h1, h2, h3⟩
      · exact .inl h1
      · exact .inr ⟨j + 1, g, h1, by omega, h3⟩

theorem St.sumNone {h : H} (s : St B h F w) : St B h (Sum.elim (fun _ : Nat => (none : Option Ent)) F) w := by
  refine ⟨s.low, s.base, fun x => s.ext x, ?_, ?_⟩
  · intro k e hk
    cases k with
    | inl k => cases hk
    | inr k => exact s.own hk
  · intro k k' e e' hk hk' hne
    cases k with
    | inl k => cases hk
    | inr k => cases k' with
      | inl k' => cases hk'
      | inr k' => exact s.disj hk hk' (fun e => hne (by rw [e]))
theorem St.right {h : H} {L : Nat → Option Ent} (s : St B h (Sum.elim L F) w) : St B h F w :=
  s.reind Sum.inr (fun _ _ x => x) (fun _ _ _ _ _ _ n e => n (Sum.inr.inj e))

theorem fn_enter {f : FuncId} {fn : Func} {c : Code} {args : List Fact} {post : Fact} (hf : P.funcs[f]? = some fn) (hb : fn.body = some c) (hn : fn.ntmps = n) (hchk : (Nat.ble args.length n && depNone args) = true)
    (hwp : ∀ (κ : Type) (B : Base) (h0 : H) (F : κ → Option Ent) (a : Act) (w : World), At B h0 (mkG (argG 0 args)) (mkO []) F n a w → c.wp P (RetPost P fn B h0 F post) a w) : FnOk P f args post := by
  intro κ B L h w vs hst hl hargs
  rw [Bool.and_eq_true, Nat.ble_eq] at hchk
  obtain ⟨hlen, hdp⟩ := hchk
  have hdep := depNone_spec hdp
  refine calls_of_wp hf hb (hwp _ B h L _ w ⟨h, fun _ => none, Hle.refl h, St.sumNone hst, fun s q hq => (by cases hq), ?_, ?_, rfl⟩)
  · intro s
    rcases argG_spec args 0 s with h1 | ⟨j, g, h1, h2, h3⟩
    · show (lkF (argG 0 args) s).at _ _ _; rw [h1]; exact trivial
    · show (lkF (argG 0 args) s).at _ _ _; rw [h3]
      have hj := (List.getElem?_eq_some_iff.1 h1).1
      have hv : vs[j]? = some vs[j] := List.getElem?_eq_getElem (by omega)
      have := hargs j g _ h1 hv
      unfold Fact.at Fact.dv
      rw [hdep g (List.mem_of_getElem? h1)]
      have he : Act.gt { tmps := vs.toArray ++ Array.replicate (fn.ntmps - vs.toArray.size) undef, defers := [] } s = vs[j] := by
        rw [h2, Nat.zero_add]
        simp only [Act.gt, Array.getD_eq_getD_getElem?]
        rw [Array.getElem?_append_left (by simp; omega)]
        simp [hv]
      rw [he]; exact this
  · simp; omega

/- tuples -/
def fT0 : Fact := ⟨none, fun _ _ v => v = .tuple #[], fun _ x => x⟩
def fT2 (f g : Fact) : Fact := ⟨none, fun h _ v => ∃ x y, v = .tuple #[x, y] ∧ f.p h undef x ∧ g.p h undef y, fun hl ⟨x, y, e, a, b⟩ => ⟨x, y, e, f.mono hl a, g.mono hl b⟩⟩
def fT3 (f g i : Fact) : Fact := ⟨none, fun h _ v => ∃ x y z, v = .tuple #[x, y, z] ∧ f.p h undef x ∧ g.p h undef y ∧ i.p h undef z, fun hl ⟨x, y, z, e, a, b, c⟩ => ⟨x, y, z, e, f.mono hl a, g.mono hl b, i.mono hl c⟩⟩
section
variable {o : Oper} {N : List (Nat × Fact)} {x : Operand} {f g i : Fact}
theorem ok_ext20 (hd : f.dep = none) (ho : o.op = .extract x 0) (hx : OpdOk N x (fT2 f g)) : OpOk P o N [] f [] :=
  OpOk.ofRun fun h a w _ q => by
    obtain ⟨u, v, e, p1, _⟩ := hx h a q
    exact ⟨u, by simp [execOp, ho, e, Instr.extract], by unfold Fact.dv; rw [hd]; exact p1⟩
theorem ok_ext21 (hd : g.dep = none) (ho : o.op = .extract x 1) (hx : OpdOk N x (fT2 f g)) : OpOk P o N [] g [] :=
  OpOk.ofRun fun h a w _ q => by
    obtain ⟨u, v, e, _, p2⟩ := hx h a q
    exact ⟨v, by simp [execOp, ho, e, Instr.extract], by unfold Fact.dv; rw [hd]; exact p2⟩
theorem ok_ext30 (hd : f.dep = none) (ho : o.op = .extract x 0) (hx : OpdOk N x (fT3 f g i)) : OpOk P o N [] f [] :=
  OpOk.ofRun fun h a w _ q => by
    obtain ⟨u, v, z, e, p1, _⟩ := hx h a q
    exact ⟨u, by simp [execOp, ho, e, Instr.extract], by unfold Fact.dv; rw [hd]; exact p1⟩
theorem ok_ext31 (hd : g.dep = none) (ho : o.op = .extract x 1) (hx : OpdOk N x (fT3 f g i)) : OpOk P o N [] g [] :=
  OpOk.ofRun fun h a w _ q => by
    obtain ⟨u, v, z, e, _, p2, _⟩ := hx h a q
    exact ⟨v, by simp [execOp, ho, e, Instr.extract], by unfold Fact.dv; rw [hd]; exact p2⟩
theorem ok_ext32 (hd : i.dep = none) (ho : o.op = .extract x 2) (hx : OpdOk N x (fT3 f g i)) : OpOk P o N [] i [] :=
  OpOk.ofRun fun h a w _ q => by
    obtain ⟨u, v, z, e, _, _, p3⟩ := hx h a q
    exact ⟨z, by simp [execOp, ho, e, Instr.extract], by unfold Fact.dv; rw [hd]; exact p3⟩
end

/- what a function hands back -/
def resV (tmps : Array Value) : ResultVar → Sem Value
  | .tmp t => pure (tmps.getD t undef)
  | .cell a t => do loadVar t (← asAddr (tmps.getD a undef))
def RvOk (P : Program) (Γ : Ctx) (Λ : Own) (rv : ResultVar) (g : Fact) : Prop :=
  ∀ (κ : Type) (B : Base) (F : κ → Option Ent) (h : H) (a : Act) (w : World), ∀ L, St B h (Sum.elim L F) w → OwnOk Λ L a → Sat Γ h a → ∃ v, (resV a.tmps rv).run P w = .ok v w ∧ g.p h undef v
theorem rv_tmp {s : Nat} {g : Fact} (hd : g.dep = none) (hs : Γ s = g) : RvOk P Γ Λ (.tmp s) g := by
  intro κ B F h a w L _ _ hsat
  have hf := hsat s
  rw [hs] at hf
  unfold Fact.at Fact.dv at hf
  rw [hd] at hf
  exact ⟨a.gt s, rfl, hf⟩
theorem rv_cell {α : Type} {r : Rep α} {x : α} {T : TypeId} {s : Nat} (t : TyOk P T r) (hs : Λ s = some (boxE T r x)) : RvOk P Γ Λ (.cell s T) (fV r x) := by
  intro κ B F h a w L hst hOw hsat
  obtain ⟨e, hL, b, hv, rfl⟩ := hOw s _ hs
  obtain ⟨cs, hb, hrel⟩ := own_at hst hL
  obtain ⟨c, hc, hrun⟩ := run_load_own t (Lens.refl r) hb hrel
  refine ⟨pack r.agg c, ?_, c, hc, rfl⟩
  have hv' : a.tmps.getD s undef = .pointer (some ⟨b, 0, none⟩) := hv
  have hrun' : (loadVar T ⟨b, 0, none⟩).run P w = .ok (pack r.agg c) w := by simpa [Instr.loadAt, Instr.sureAddr] using hrun
  simp only [resV, hv', asAddr, Sem.run_bind, Sem.run_pure, Result.andThen_ok, hrun']
theorem results_eq (fn : Func) (tmps : Array Value) : results fn tmps = (do let vs ← fn.results.mapM (resV tmps); pure (if h : vs.size = 1 then vs[0] else .tuple vs)) := by
  unfold results
  congr 2
theorem ret0 {fn : Func} (hr : fn.results = #[]) (hAt : At B h0 Γ Λ F n a w) : RetPost P fn B h0 F fT0 .ret a w := by
  obtain ⟨h, _, hl, hst, _, _, _, hdf⟩ := hAt
  exact ⟨hdf, .tuple #[], by simp [results, hr], _, h, rfl, hl, hst.right, rfl⟩
theorem ret1 {fn : Func} {rv : ResultVar} {g : Fact} (hr : fn.results = #[rv]) (h1 : RvOk P Γ Λ rv g) (hAt : At B h0 Γ Λ F n a w) : RetPost P fn B h0 F g .ret a w := by
  obtain ⟨h, L, hl, hst, hOw, hsat, _, hdf⟩ := hAt
  obtain ⟨v, hv, hp⟩ := h1 _ B F h a w L hst hOw hsat
  refine ⟨hdf, v, ?_, v, h, rfl, hl, hst.right, hp⟩
  rw [results_eq]; simp [hr, hv]
theorem ret2 {fn : Func} {rv rv' : ResultVar} {g g' : Fact} (hr : fn.results = #[rv, rv']) (h1 : RvOk P Γ Λ rv g) (h2 : RvOk P Γ Λ rv' g') (hAt : At B h0 Γ Λ F n a w) : RetPost P fn B h0 F (fT2 g g') .ret a w := by
  obtain ⟨h, L, hl, hst, hOw, hsat, _, hdf⟩ := hAt
  obtain ⟨v, hv, hp⟩ := h1 _ B F h a w L hst hOw hsat
  obtain ⟨v', hv', hp'⟩ := h2 _ B F h a w L hst hOw hsat
  refine ⟨hdf, .tuple #[v, v'], ?_, _, h, rfl, hl, hst.right, v, v', rfl, hp, hp'⟩
  rw [results_eq]; simp [hr, hv, hv']
theorem ret3 {fn : Func} {rv rv' rv'' : ResultVar} {g g' g'' : Fact} (hr : fn.results = #[rv, rv', rv'']) (h1 : RvOk P Γ Λ rv g) (h2 : RvOk P Γ Λ rv' g') (h3 : RvOk P Γ Λ rv'' g'') (hAt : At B h0 Γ Λ F n a w) : RetPost P fn B h0 F (fT3 g g' g'') .ret a w := by
  obtain ⟨h, L, hl, hst, hOw, hsat, _, hdf⟩ := hAt
  obtain ⟨v, hv, hp⟩ := h1 _ B F h a w L hst hOw hsat
  obtain ⟨v', hv', hp'⟩ := h2 _ B F h a w L hst hOw hsat
  obtain ⟨v'', hv'', hp''⟩ := h3 _ B F h a w L hst hOw hsat
  refine ⟨hdf, .tuple #[v, v', v''], ?_, _, h, rfl, hl, hst.right, v, v', v'', rfl, hp, hp', hp''⟩
  rw [results_eq]; simp [hr, hv, hv', hv'']

/- a call of a function of the program -/
def isBody (fn : Func) : Bool := fn.body.isSome && !(fn.name == "runtime.NumGoroutine")
def ArgsOk (N : List (Nat × Fact)) : List Fact → List Operand → Prop
  | [], [] => True
  | g :: gs, x :: xs => OpdOk N x g ∧ ArgsOk N gs xs
  | _, _ => False
theorem ArgsOk.spec {N : List (Nat × Fact)} : ∀ {gs : List Fact} {xs : List Operand}, ArgsOk N gs xs → gs.length = xs.length ∧ ∀ (i : Nat) (g : Fact) (x : Operand), gs[i]? = some g → xs[i]? = some x → OpdOk N x g := by
  intro gs
  induction gs with
  | nil => intro xs h; cases xs with
    | nil => exact ⟨rfl, fun i g x h => by simp at h⟩
    | cons _ _ => exact h.elim
  | cons g gs ih =>
    intro xs h
    cases xs with
    | nil => exact h.elim
    | cons x xs =>
      obtain ⟨h1, h2⟩ := h
      obtain ⟨h3, h4⟩ := ih h2
      refine ⟨by simp [h3], fun i g' x' hg hx => ?_⟩
      cases i with
      | zero => cases hg; cases hx; exact h1
      | succ i => exact h4 i g' x' (by simpa using hg) (by simpa using hx)
theorem ok_call {f : FuncId} {fn : Func} {args : List Fact} {post : Fact} {xs : Array Operand} {ts : Array TypeId} {N : List (Nat × Fact)} {o : Oper} (hc : FnOk P f args post) (hf : P.funcs[f]? = some fn) (hb : isBody fn = true) (hd : depNone (post :: args) = true)
    (ho : o.op = .call { callee := .value (.func f), args := xs, argTypes := ts }) (hargs : ArgsOk N args xs.toList) : OpOk P o N [] post [] := by
  intro κ B F L h a w hst hn _ _ next Q hnext
  simp only [isBody, Bool.and_eq_true, Bool.not_eq_true'] at hb
  have hbody : fn.body ≠ none := by
    intro hx; rw [hx] at hb; cases hb.1
  have hname : fn.name ≠ "runtime.NumGoroutine" := by simpa using hb.2
  have hdp := depNone_spec hd
  obtain ⟨hlen, hall⟩ := hargs.spec
  unfold Oper.wp
  have : (execOp a.eval o).run P w = .ok (.enter f (xs.toList.map a.eval).toArray) w := by
    have e : (xs.toList.map a.eval).toArray = xs.map a.eval := by apply Array.ext'; simp
    rw [e]
    simp [execOp, ho, resolve, Act.eval, Deferred.ofValue, invoke, callFunc, hf, hname, hbody]
  rw [this, Oper.upon_enter]
  refine (hc _ B (Sum.elim L F) h w (xs.toList.map a.eval) hst (by rw [List.length_map]; exact hlen) ?_).mono ?_
  · intro i g v hg hv
    rw [List.getElem?_map] at hv
    cases hx : xs.toList[i]? with
    | none => rw [hx] at hv; cases hv
    | some x =>
      rw [hx] at hv; cases hv
      have := hall i g x hg hx h a hn
      unfold Fact.dv at this
      rw [hdp g (List.mem_cons_of_mem _ (List.mem_of_getElem? hg))] at this
      exact this
  · rintro e w' ⟨v, h', rfl, hl, hst', hp⟩
    refine hnext v h' w' L hl ?_ hst' upd_nil
    unfold Fact.dv
    rw [hdp post List.mem_cons_self]
    exact hp
end Go.KB
namespace Go.KB
def slotsOk (n : Nat) : List Oper → Bool
  | [] => true
  | o :: os => (match o.dst with | some d => Nat.blt d n | none => true) && slotsOk n os
theorem slotsOk_spec {n : Nat} : ∀ {l : List Oper}, slotsOk n l = true → ∀ o ∈ l, ∀ d, o.dst = some d → d < n := by
  intro l
  induction l with
  | nil => intro _ o h; cases h
  | cons x r ih =>
    intro h o ho d hd
    simp only [slotsOk, Bool.and_eq_true] at h
    rcases List.mem_cons.1 ho with rfl | ho
    · have := h.1; rw [hd] at this; simpa [Nat.blt_eq] using this
    · exact ih h.2 o ho d hd
variable {P : Program} {κ : Type} {B : Base} {h0 : H} {Γ : Ctx} {Λ : Own} {F : κ → Option Ent} {n : Nat} {a : Act} {w : World} {Q : Exit → Act → World → Prop}
/- a region, then the facts that are kept of it -/
theorem reg {id : Nat} {ops : Array Oper} (sp : List OS) (l m : List Nat) (hAt : At B h0 Γ Λ F n a w) (hobl : Obls P sp ops.toList Γ Λ ops.toList sp)
    (hchk : (chk Γ Λ false ops.toList sp && slotsOk n ops.toList) = true)
    (hnext : ∀ a w, At B h0 (mkG (pickG (endGd Γ ops.toList sp) l)) (mkO (pickO (endO Λ ops.toList sp) m)) F n a w → Q .normal a w) : (Code.region id ops false).wp P Q a w := by
  rw [Bool.and_eq_true] at hchk
  exact wp_reg sp hAt hobl hchk.1 (slotsOk_spec hchk.2) (fun a w x => hnext a w (x.pick l m))
theorem regd {id : Nat} {ops : Array Oper} (sp : List OS) (rt rg l m : List Nat) (hAt : At B h0 Γ Λ F n a w) (hobl : Obls P sp ops.toList Γ Λ ops.toList sp)
    (hchk : (chk Γ Λ true ops.toList sp && inRange ops.size ops.toList && rankOk .text rt 0 ops.toList && rankOk .gc rg 0 ops.toList && rankOk .any rt 0 ops.toList && slotsOk n ops.toList) = true)
    (hnext : ∀ a w, At B h0 (mkG (pickG (endGd Γ ops.toList sp) l)) (mkO (pickO (endO Λ ops.toList sp) m)) F n a w → Q .normal a w) : (Code.region id ops true).wp P Q a w := by
  rw [Bool.and_eq_true] at hchk
  exact wp_regd sp rt rg hAt hobl hchk.1 (slotsOk_spec hchk.2) (fun a w x => hnext a w (x.pick l m))
end Go.KB
namespace Go.KB
section
variable {K : Act → World → Prop} {Q : Exit → Act → World → Prop} {a : Act} {w : World} {i j : Nat}
theorem then_n (h : K a w) : Exit.then K Q .normal a w := h
theorem then_x (h : Q (.exit i) a w) : Exit.then K Q (.exit i) a w := h
theorem then_r (h : Q .ret a w) : Exit.then K Q .ret a w := h
theorem blk_n (h : Q .normal a w) : Exit.inBlock i Q .normal a w := h
theorem blk_r (h : Q .ret a w) : Exit.inBlock i Q .ret a w := h
theorem blk_eq (h : Q .normal a w) : Exit.inBlock i Q (.exit i) a w := by simp [Exit.inBlock]; exact h
theorem blk_ne (hne : Nat.beq i j = false) (h : Q (.exit i) a w) : Exit.inBlock j Q (.exit i) a w := by
  have : i ≠ j := fun e => by rw [nbeq.2 e] at hne; cases hne
  simp [Exit.inBlock, this]; exact h
theorem ex_ne : Exit.exit i ≠ .normal := fun h => by cases h
theorem ret_ne : Exit.ret ≠ .normal := fun h => by cases h
end
end Go.KB
