/- Function values; functions that hand a row back; a slice against nil. No condition. -/
import Derived.Test.YtbedbjphickpaaaKCtl
import Derived.Lib.BufferMore
namespace Go.KB
variable {P : Program} {o : Oper} {N : List (Nat × Fact)} {α β γ : Type}

/- a function value: what it answers at each of a family of arguments -/
def fF (P : Program) {ι : Type} (A : ι → List Fact) (R : ι → Fact) : Fact :=
  ⟨none, fun h _ v => ∃ f fn cap, v = .func (.func f) #[] cap ∧ P.funcs[f]? = some fn ∧ isBody fn = true ∧ ∀ i (κ : Type) (B : Base) (L : κ → Option Ent) (h' : H) (w : World) (vs : List Value), Hle h h' → St B h' L w → (A i).length = vs.length →
      (∀ (j : Nat) (g : Fact) (v : Value), (A i)[j]? = some g → vs[j]? = some v → g.p h' undef v) → Calls P f (vs.toArray ++ cap) w (fun e w' => ∃ v h'', e = .returned v ∧ Hle h' h'' ∧ St B h'' L w' ∧ (R i).p h'' undef v),
    fun hl ⟨f, fn, cap, e, hf, hb, k⟩ => ⟨f, fn, cap, e, hf, hb, fun i κ B L h' w vs hl' => k i κ B L h' w vs (hl.trans hl')⟩⟩
def fF1 (P : Program) (r : Rep α) (q : Rep β) (φ : α → Option β) : Fact := fF P (ι := {p : α × β // φ p.1 = some p.2}) (fun p => [fV r p.1.1]) (fun p => fV q p.1.2)
def fF2 (P : Program) (r : Rep α) (s : Rep γ) (q : Rep β) (φ : α → γ → Option β) : Fact := fF P (ι := {p : α × γ × β // φ p.1 p.2.1 = some p.2.2}) (fun p => [fV r p.1.1, fV s p.1.2.1]) (fun p => fV q p.1.2.2)

theorem ok_mkF {ι : Type} {A : ι → List Fact} {R : ι → Fact} {C : List Fact} {f : FuncId} {fn : Func} {xs : Array Operand} (hc : ∀ i, FnOk P f (A i ++ C) (R i)) (hf : P.funcs[f]? = some fn) (hb : isBody fn = true) (hd : depNone C = true)
    (ho : o.op = .makeFunc (.func f) #[] xs) (hargs : ArgsOk N C xs.toList) : OpOk P o N [] (fF P A R) [] :=
  OpOk.ofRun fun h a w _ hn => by
    have hdp := depNone_spec hd
    obtain ⟨hlen, hall⟩ := hargs.spec
    refine ⟨.func (.func f) #[] (xs.map a.eval), by simp [execOp, ho, Instr.makeFunc], f, fn, _, rfl, hf, hb, fun i κ B L h' w' vs hl hst hvl hvs => ?_⟩
    have e : vs.toArray ++ xs.map a.eval = (vs ++ xs.toList.map a.eval).toArray := by apply Array.ext'; simp
    rw [e]
    refine hc i κ B L h' w' _ hst (by simp [hvl, hlen]) fun j g v hg hv => ?_
    by_cases hj : j < vs.length
    · rw [List.getElem?_append_left (by rw [hvl]; exact hj)] at hg
      rw [List.getElem?_append_left hj] at hv
      exact hvs j g v hg hv
    · rw [List.getElem?_append_right (by rw [hvl]; omega)] at hg
      rw [List.getElem?_append_right (by omega), List.getElem?_map] at hv
      rw [hvl] at hg
      cases hx : xs.toList[j - vs.length]? with
      | none => rw [hx] at hv; cases hv
      | some x =>
        rw [hx] at hv; cases hv
        have := hall _ g x hg hx h a hn
        unfold Fact.dv at this
        rw [hdp g (List.mem_of_getElem? hg)] at this
        exact g.mono hl this
theorem ok_mkF1 {r : Rep α} {q : Rep β} {φ : α → Option β} {C : List Fact} {f : FuncId} {fn : Func} {xs : Array Operand} (hc : ∀ x y, φ x = some y → FnOk P f (fV r x :: C) (fV q y)) (hf : P.funcs[f]? = some fn) (hb : isBody fn = true) (hd : depNone C = true)
    (ho : o.op = .makeFunc (.func f) #[] xs) (hargs : ArgsOk N C xs.toList) : OpOk P o N [] (fF1 P r q φ) [] := ok_mkF (fun i => hc _ _ i.2) hf hb hd ho hargs
theorem ok_mkF2 {r : Rep α} {s : Rep γ} {q : Rep β} {φ : α → γ → Option β} {C : List Fact} {f : FuncId} {fn : Func} {xs : Array Operand} (hc : ∀ x y z, φ x y = some z → FnOk P f (fV r x :: fV s y :: C) (fV q z)) (hf : P.funcs[f]? = some fn) (hb : isBody fn = true) (hd : depNone C = true)
    (ho : o.op = .makeFunc (.func f) #[] xs) (hargs : ArgsOk N C xs.toList) : OpOk P o N [] (fF2 P r s q φ) [] := ok_mkF (fun i => hc _ _ _ i.2) hf hb hd ho hargs

theorem ok_callF {ι : Type} {A : ι → List Fact} {R : ι → Fact} (i : ι) {z : Operand} {xs : Array Operand} {ts : Array TypeId} (hd : depNone (R i :: A i) = true) (ho : o.op = .call { callee := .value z, args := xs, argTypes := ts })
    (hz : OpdOk N z (fF P A R)) (hargs : ArgsOk N (A i) xs.toList) : OpOk P o N [] (R i) [] := by
  intro κ B F L h a w hst hn _ _ next Q hnext
  obtain ⟨f, fn, cap, hv, hf, hb, hk⟩ := hz h a hn
  simp only [isBody, Bool.and_eq_true, Bool.not_eq_true'] at hb
  have hbody : fn.body ≠ none := by
    intro hx; rw [hx] at hb; cases hb.1
  have hname : fn.name ≠ "runtime.NumGoroutine" := by simpa using hb.2
  have hdp := depNone_spec hd
  obtain ⟨hlen, hall⟩ := hargs.spec
  unfold Oper.wp
  have : (execOp a.eval o).run P w = .ok (.enter f ((xs.toList.map a.eval).toArray ++ cap)) w := by
    have e : (xs.toList.map a.eval).toArray = xs.map a.eval := by apply Array.ext'; simp
    rw [e]
    simp [execOp, ho, resolve, hv, Deferred.ofValue, invoke, callFunc, hf, hname, hbody]
  rw [this, Oper.upon_enter]
  refine (hk i _ B (Sum.elim L F) h w (xs.toList.map a.eval) (Hle.refl h) hst (by rw [List.length_map]; exact hlen) ?_).mono ?_
  · intro j g v hg hv
    rw [List.getElem?_map] at hv
    cases hx : xs.toList[j]? with
    | none => rw [hx] at hv; cases hv
    | some x =>
      rw [hx] at hv; cases hv
      have := hall j g x hg hx h a hn
      unfold Fact.dv at this
      rw [hdp g (List.mem_cons_of_mem _ (List.mem_of_getElem? hg))] at this
      exact this
  · rintro e w' ⟨v, h', rfl, hl, hst', hp⟩
    refine hnext v h' w' L hl ?_ hst' upd_nil
    unfold Fact.dv
    rw [hdp _ List.mem_cons_self]
    exact hp
theorem ok_callF1 {r : Rep α} {q : Rep β} {φ : α → Option β} {x : α} {y : β} (hq : φ x = some y) {z : Operand} {xs : Array Operand} {ts : Array TypeId} (ho : o.op = .call { callee := .value z, args := xs, argTypes := ts })
    (hz : OpdOk N z (fF1 P r q φ)) (hargs : ArgsOk N [fV r x] xs.toList) : OpOk P o N [] (fV q y) [] := ok_callF (ι := {p : α × β // φ p.1 = some p.2}) ⟨(x, y), hq⟩ rfl ho hz hargs
theorem ok_callF2 {r : Rep α} {s : Rep γ} {q : Rep β} {φ : α → γ → Option β} {x : α} {u : γ} {y : β} (hq : φ x u = some y) {z : Operand} {xs : Array Operand} {ts : Array TypeId} (ho : o.op = .call { callee := .value z, args := xs, argTypes := ts })
    (hz : OpdOk N z (fF2 P r s q φ)) (hargs : ArgsOk N [fV r x, fV s u] xs.toList) : OpOk P o N [] (fV q y) [] := ok_callF (ι := {p : α × γ × β // φ p.1 p.2.1 = some p.2.2}) ⟨(x, u, y), hq⟩ rfl ho hz hargs

/- a slice against nil -/
def fNil (xs : List α) : Fact := ⟨none, fun _ _ v => ∃ b, v = .bool b ∧ (b = true → xs = []), fun _ x => x⟩
theorem ok_isNil {T T' E : TypeId} {r : Rep α} {x : Operand} {xs : List α} (hT : P.underlying T = some (.slice E)) (ho : o.op = .binOp .eql T x (.const (.slice none 0 0)) T') (hx : OpdOk N x (fV (Rep.slice r) xs)) : OpOk P o N [] (fNil xs) [] :=
  OpOk.ofRun fun h a w _ n => by
    have hg : ∀ v, eqGuard .eql T x (.const (.slice none 0 0)) v (.slice none 0 0) = pure () := by
      intro v; unfold eqGuard; cases v <;> rfl
    rcases val_slice.1 (hx h a n) with ⟨⟨base, hv⟩, rfl⟩ | ⟨b, off, cap, hv, _⟩
    · cases base with
      | some a0 => exact ⟨.bool false, by simp only [execOp, ho, hv]; show ((do eqGuard _ _ _ _ _ (.slice none 0 0); binOp .eql T (.slice _ _ _) (.slice none 0 0)) >>= fun v => pure (Next.value v)).run P w = _; rw [hg]; simp [Lib.run_eql_slice_some_nil w _ _ _ hT], false, rfl, fun h => by cases h⟩
      | none => exact ⟨.bool true, by simp only [execOp, ho, hv]; show ((do eqGuard _ _ _ _ _ (.slice none 0 0); binOp .eql T (.slice none 0 0) (.slice none 0 0)) >>= fun v => pure (Next.value v)).run P w = _; rw [hg]; simp [Lib.run_eql_slice_nil_nil w _ _ hT], true, rfl, fun _ => rfl⟩
    · exact ⟨.bool false, by simp only [execOp, ho, hv]; show ((do eqGuard _ _ _ _ _ (.slice none 0 0); binOp .eql T (.slice _ _ _) (.slice none 0 0)) >>= fun v => pure (Next.value v)).run P w = _; rw [hg]; simp [Lib.run_eql_slice_some_nil w _ _ _ hT], false, rfl, fun h => by cases h⟩
section
variable {κ : Type} {B : Base} {h0 : H} {Γ : Ctx} {Λ : Own} {F : κ → Option Ent} {n : Nat} {a : Act} {w : World} {Q : Exit → Act → World → Prop}
theorem wp_ifNil {s : Nat} {xs : List α} {x y : Code} (hAt : At B h0 Γ Λ F n a w) (hs : Γ s = fNil xs) (ht : xs = [] → x.wp P Q a w) (hf : y.wp P Q a w) : (Code.cond (.tmp s) x y).wp P Q a w := by
  obtain ⟨h, _, _, _, _, hsat, _⟩ := hAt
  have := hsat s
  rw [hs] at this
  obtain ⟨b, hb, hx⟩ := this
  exact wp_cond_split (show Act.eval a (.tmp s) = _ from hb) (fun e => ht (hx e)) (fun _ => hf)
end

/- functions that hand a row back -/
def FnOkO (P : Program) (f : FuncId) (args : List Fact) (q : OwnP) (post : Fact) : Prop :=
  ∀ (κ : Type) (B : Base) (L : κ → Option Ent) (h : H) (w : World) (vs : List Value), St B h L w → args.length = vs.length → (∀ (i : Nat) (g : Fact) (v : Value), args[i]? = some g → vs[i]? = some v → g.p h undef v) →
    Calls P f vs.toArray w (fun e w' => ∃ v h' x, e = .returned v ∧ Hle h h' ∧ St B h' (Sum.elim (fun _ : Unit => some x) L) w' ∧ post.p h' undef v ∧ q v x)
def tupE (q : OwnP) : OwnP := fun v e => ∃ x y, v = .tuple #[x, y] ∧ q x e
def RetPostO (P : Program) (fn : Func) {κ : Type} (B : Base) (h0 : H) (F : κ → Option Ent) (q : OwnP) (post : Fact) : Exit → Act → World → Prop :=
  bodyPost P fn (fun e w' => ∃ v h' x, e = .returned v ∧ Hle h0 h' ∧ St B h' (Sum.elim (fun _ : Unit => some x) F) w' ∧ post.p h' undef v ∧ q v x)
theorem fn_enterO {n : Nat} {f : FuncId} {fn : Func} {c : Code} {args : List Fact} {q : OwnP} {post : Fact} (hf : P.funcs[f]? = some fn) (hb : fn.body = some c) (hn : fn.ntmps = n) (hchk : (Nat.ble args.length n && depNone args) = true)
    (hwp : ∀ (κ : Type) (B : Base) (h0 : H) (F : κ → Option Ent) (a : Act) (w : World), At B h0 (mkG (argG 0 args)) (mkO []) F n a w → c.wp P (RetPostO P fn B h0 F q post) a w) : FnOkO P f args q post := by
  intro κ B L h w vs hst hl hargs
  rw [Bool.and_eq_true, Nat.ble_eq] at hchk
  obtain ⟨hlen, hdp⟩ := hchk
  have hdep := depNone_spec hdp
  refine calls_of_wp hf hb (hwp _ B h L _ w ⟨h, fun _ => none, Hle.refl h, St.sumNone hst, fun s q hq => (by cases hq), ?_, ?_, rfl⟩)
  · intro s
    rcases argG_spec args 0 s with h1 | ⟨j, g, h1, h2, h3⟩
    · show (lkF (argG 0 args) s).at _ _ _; rw [h1]; exact trivial
    · show (lkF (argG 0 args) s).at _ _ _; rw [h3]
      have hj := (List.getElem?_eq_some_iff.1 h1).1
      have hv : vs[j]? = some vs[j] := List.getElem?_eq_getElem (by omega)
      have := hargs j g _ h1 hv
      unfold Fact.at Fact.dv
      rw [hdep g (List.mem_of_getElem? h1)]
      have he : Act.gt { tmps := vs.toArray ++ Array.replicate (fn.ntmps - vs.toArray.size) undef, defers := [] } s = vs[j] := by
        rw [h2, Nat.zero_add]
        simp only [Act.gt, Array.getD_eq_getD_getElem?]
        rw [Array.getElem?_append_left (by simp; omega)]
        simp [hv]
      rw [he]; exact this
  · simp; omega
section
variable {κ : Type} {B : Base} {h h0 : H} {L : Nat → Option Ent} {Γ : Ctx} {Λ : Own} {F : κ → Option Ent} {n : Nat} {a : Act} {w : World} {q : OwnP}
theorem St.one (hst : St B h (Sum.elim L F) w) (s : Nat) {e : Ent} (hL : L s = some e) : St B h (Sum.elim (fun _ : Unit => some e) F) w := by
  refine hst.reind (fun k => match k with | .inl _ => .inl s | .inr k => .inr k) ?_ ?_
  · intro k e' hk
    cases k with
    | inl _ => exact hL.trans hk
    | inr k => exact hk
  · intro k k' e1 e2 h1 h2 hne
    cases k with
    | inl u => cases k' with
      | inl u' => exact absurd rfl hne
      | inr k' => intro he; cases he
    | inr k => cases k' with
      | inl u' => intro he; cases he
      | inr k' => intro he; exact hne (by rw [Sum.inr.inj he])
theorem ret1O {fn : Func} {s : Nat} (hr : fn.results = #[.tmp s]) (hs : Λ s = some q) (hAt : At B h0 Γ Λ F n a w) : RetPostO P fn B h0 F q Fact.triv .ret a w := by
  obtain ⟨h, L, hl, hst, hOw, hsat, _, hdf⟩ := hAt
  obtain ⟨e, hL, hq⟩ := hOw s q hs
  refine ⟨hdf, a.gt s, ?_, a.gt s, h, e, rfl, hl, hst.one s hL, trivial, hq⟩
  have hv : (resV a.tmps (.tmp s)).run P w = .ok (a.gt s) w := rfl
  rw [results_eq]; simp [hr, hv]
theorem ret2O {fn : Func} {s : Nat} {rv : ResultVar} {g : Fact} (hr : fn.results = #[.tmp s, rv]) (hs : Λ s = some q) (h1 : RvOk P Γ Λ rv g) (hAt : At B h0 Γ Λ F n a w) : RetPostO P fn B h0 F (tupE q) (fT2 Fact.triv g) .ret a w := by
  obtain ⟨h, L, hl, hst, hOw, hsat, _, hdf⟩ := hAt
  obtain ⟨v, hv, hp⟩ := h1 _ B F h a w L hst hOw hsat
  obtain ⟨e, hL, hq⟩ := hOw s q hs
  refine ⟨hdf, .tuple #[a.gt s, v], ?_, _, h, e, rfl, hl, hst.one s hL, ⟨_, _, rfl, trivial, hp⟩, _, _, rfl, hq⟩
  have hv0 : (resV a.tmps (.tmp s)).run P w = .ok (a.gt s) w := rfl
  rw [results_eq]; simp [hr, hv, hv0]
end
theorem ok_callO {d : Nat} {f : FuncId} {fn : Func} {args : List Fact} {q : OwnP} {post : Fact} {xs : Array Operand} {ts : Array TypeId} (hc : FnOkO P f args q post) (hf : P.funcs[f]? = some fn) (hb : isBody fn = true) (hd : depNone (post :: args) = true) (hdst : o.dst = some d)
    (ho : o.op = .call { callee := .value (.func f), args := xs, argTypes := ts }) (hargs : ArgsOk N args xs.toList) : OpOk P o N [] post [(d, some q)] := by
  intro κ B F L h a w hst hn _ hdn next Q hnext
  simp only [isBody, Bool.and_eq_true, Bool.not_eq_true'] at hb
  have hbody : fn.body ≠ none := by
    intro hx; rw [hx] at hb; cases hb.1
  have hname : fn.name ≠ "runtime.NumGoroutine" := by simpa using hb.2
  have hdp := depNone_spec hd
  obtain ⟨hlen, hall⟩ := hargs.spec
  unfold Oper.wp
  have : (execOp a.eval o).run P w = .ok (.enter f (xs.toList.map a.eval).toArray) w := by
    have e : (xs.toList.map a.eval).toArray = xs.map a.eval := by apply Array.ext'; simp
    rw [e]
    simp [execOp, ho, resolve, Act.eval, Deferred.ofValue, invoke, callFunc, hf, hname, hbody]
  rw [this, Oper.upon_enter]
  refine (hc _ B (Sum.elim L F) h w (xs.toList.map a.eval) hst (by rw [List.length_map]; exact hlen) ?_).mono ?_
  · intro i g v hg hv
    rw [List.getElem?_map] at hv
    cases hx : xs.toList[i]? with
    | none => rw [hx] at hv; cases hv
    | some x =>
      rw [hx] at hv; cases hv
      have := hall i g x hg hx h a hn
      unfold Fact.dv at this
      rw [hdp g (List.mem_cons_of_mem _ (List.mem_of_getElem? hg))] at this
      exact this
  · rintro e w' ⟨v, h', x, rfl, hl, hst', hp, hq⟩
    refine hnext v h' w' (set1 L d x) hl ?_ ?_ ?_
    · unfold Fact.dv
      rw [hdp post List.mem_cons_self]
      exact hp
    · refine hst'.reind (fun k => match k with | .inl k => if k = d then .inl () else .inr (.inl k) | .inr k => .inr (.inr k)) ?_ ?_
      · intro k e hk
        cases k with
        | inr k => exact hk
        | inl k =>
          by_cases hkd : k = d
          · subst hkd; simp [set1] at hk; simp [hk]
          · simp [set1, hkd] at hk; simp [hkd, hk]
      · intro k k' e1 e2 h1 h2 hne
        cases k with
        | inr k => cases k' with
          | inr k' => intro he; exact hne (by rw [Sum.inr.inj (Sum.inr.inj he)])
          | inl k' => intro he; simp only [] at he; split at he <;> cases he
        | inl k => cases k' with
          | inr k' => intro he; simp only [] at he; split at he <;> cases he
          | inl k' =>
            have hne' : k ≠ k' := fun x => hne (by rw [x])
            simp only []
            intro he
            split at he <;> split at he
            · rename_i h3 h4; exact hne' (h3.trans h4.symm)
            · cases he
            · cases he
            · exact hne' (Sum.inl.inj (Sum.inr.inj he))
    · rw [hdst]
      exact upd_set1 (by rw [gt_put_same (hdn d hdst)]; exact hq)
theorem ok_ext20O {q : OwnP} {s d : Nat} (hsd : Nat.beq s d = false) (hd : o.dst = some d) (ho : o.op = .extract (.tmp s) 0) : OpOk P o N [(s, tupE q)] Fact.triv [(s, none), (d, some q)] := by
  intro κ B F L h a w hst hn hk hdn next Q hnext
  obtain ⟨e, hL, x, y, hv, hq⟩ := hk.1
  have hne : s ≠ d := fun x => by rw [nbeq.2 x] at hsd; cases hsd
  have hv' : a.eval (.tmp s) = .tuple #[x, y] := hv
  unfold Oper.wp
  have : (execOp a.eval o).run P w = .ok (.value x) w := by simp [execOp, ho, hv', Instr.extract]
  rw [this]
  refine hnext _ h w _ (Hle.refl h) trivial (hst.mv s d) ?_
  rw [hd]
  exact upd_mv hne hL (by rw [gt_put_same (hdn d hd)]; exact hq)
theorem ok_movT {q : OwnP} {f : Fact} {s d : Nat} (hsd : Nat.beq s d = false) (hd : o.dst = some d) (ho : o.op = .move (.tmp s) ∨ o.op = .assign (.tmp s)) (hx : OpdOk N (.tmp s) f) : OpOk P o N [(s, q)] f [(s, none), (d, some q)] := ok_moveOwn hsd hd ho hx
end Go.KB
