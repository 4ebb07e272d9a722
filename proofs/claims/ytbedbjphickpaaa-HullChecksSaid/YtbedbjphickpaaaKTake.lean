/- Functions that take a row over and hand a row back. No condition. -/
import Derived.Test.YtbedbjphickpaaaKPtr
namespace Go.KB
variable {P : Program} {o : Oper} {N : List (Nat × Fact)} {α β : Type}

def FnOkX (P : Program) (f : FuncId) (args : List Fact) (i : Nat) (q q' : OwnP) (post : Fact) : Prop :=
  ∀ (κ : Type) (B : Base) (L : κ → Option Ent) (h : H) (w : World) (vs : List Value) (x : Ent) (v : Value), St B h (Sum.elim (fun _ : Unit => some x) L) w → args.length = vs.length → vs[i]? = some v → q v x →
    (∀ (j : Nat) (g : Fact) (u : Value), args[j]? = some g → vs[j]? = some u → g.p h undef u) →
    Calls P f vs.toArray w (fun e w' => ∃ u h' x', e = .returned u ∧ Hle h h' ∧ St B h' (Sum.elim (fun _ : Unit => some x') L) w' ∧ post.p h' undef u ∧ q' u x')
theorem fn_enterX {n : Nat} {f : FuncId} {fn : Func} {c : Code} {args : List Fact} {i : Nat} {q q' : OwnP} {post : Fact} (hf : P.funcs[f]? = some fn) (hb : fn.body = some c) (hn : fn.ntmps = n) (hchk : (Nat.ble args.length n && depNone args) = true)
    (hwp : ∀ (κ : Type) (B : Base) (h0 : H) (F : κ → Option Ent) (a : Act) (w : World), At B h0 (mkG (argG 0 args)) (mkO [(i, q)]) F n a w → c.wp P (RetPostO P fn B h0 F q' post) a w) : FnOkX P f args i q q' post := by
  intro κ B L h w vs x v hst hl hvi hq hargs
  rw [Bool.and_eq_true, Nat.ble_eq] at hchk
  obtain ⟨hlen, hdp⟩ := hchk
  have hdep := depNone_spec hdp
  have hget : ∀ (j : Nat) u, vs[j]? = some u → Act.gt { tmps := vs.toArray ++ Array.replicate (fn.ntmps - vs.toArray.size) undef, defers := [] } j = u := by
    intro j u hu
    have hj := (List.getElem?_eq_some_iff.1 hu).1
    simp only [Act.gt, Array.getD_eq_getD_getElem?]
    rw [Array.getElem?_append_left (by simpa using hj)]
    simp [hu]
  refine calls_of_wp hf hb (hwp _ B h L _ w ⟨h, _, Hle.refl h, hst.enter i, ?_, ?_, ?_, rfl⟩)
  · intro s q1 hs
    simp only [mkO, lkO] at hs
    cases hk : Nat.beq i s with
    | true =>
      rw [hk] at hs; cases hs
      rw [nbeq] at hk; subst hk
      exact ⟨x, by simp, by rw [hget _ _ hvi]; exact hq⟩
    | false => rw [hk] at hs; cases hs
  · intro s
    rcases argG_spec args 0 s with h1 | ⟨j, g, h1, h2, h3⟩
    · show (lkF (argG 0 args) s).at _ _ _; rw [h1]; exact trivial
    · show (lkF (argG 0 args) s).at _ _ _; rw [h3]
      have hj := (List.getElem?_eq_some_iff.1 h1).1
      have hv : vs[j]? = some vs[j] := List.getElem?_eq_getElem (by omega)
      have := hargs j g _ h1 hv
      unfold Fact.at Fact.dv
      rw [hdep g (List.mem_of_getElem? h1), h2, Nat.zero_add, hget _ _ hv]
      exact this
  · simp; omega
theorem ok_callX {s d i : Nat} {q q' : OwnP} {f : FuncId} {fn : Func} {args : List Fact} {post : Fact} {xs : Array Operand} {ts : Array TypeId} {y : Operand}
    (hc : FnOkX P f args i q q' post) (hf : P.funcs[f]? = some fn) (hbd : isBody fn = true) (hd : depNone (post :: args) = true) (hsd : Nat.beq s d = false) (hdst : o.dst = some d)
    (ho : o.op = .call { callee := .value (.func f), args := xs, argTypes := ts }) (hy : xs.toList[i]? = some y) (hyx : OpdOk N y (fCp s)) (hargs : ArgsOk N args xs.toList) : OpOk P o N [(s, q)] post [(s, none), (d, some q')] := by
  intro κ B F L h a w hst hn hk hdn next Q hnext
  obtain ⟨e, hL, hq⟩ := hk.1
  have hL : L s = some e := hL
  have hq : q (a.gt s) e := hq
  have hvx : a.eval y = a.gt s := hyx h a hn
  simp only [isBody, Bool.and_eq_true, Bool.not_eq_true'] at hbd
  have hbody : fn.body ≠ none := by
    intro hx; rw [hx] at hbd; cases hbd.1
  have hname : fn.name ≠ "runtime.NumGoroutine" := by simpa using hbd.2
  have hdp := depNone_spec hd
  have hne : s ≠ d := fun x => by rw [nbeq.2 x] at hsd; cases hsd
  obtain ⟨hlen, hall⟩ := hargs.spec
  unfold Oper.wp
  have : (execOp a.eval o).run P w = .ok (.enter f (xs.toList.map a.eval).toArray) w := by
    have e : (xs.toList.map a.eval).toArray = xs.map a.eval := by apply Array.ext'; simp
    rw [e]
    simp [execOp, ho, resolve, Act.eval, Deferred.ofValue, invoke, callFunc, hf, hname, hbody]
  rw [this, Oper.upon_enter]
  have hst1 : St B h (Sum.elim (set1 L s e) F) w := by rw [set1_self hL]; exact hst
  refine (hc _ B _ h w (xs.toList.map a.eval) e (a.eval y) hst1.out (by rw [List.length_map]; exact hlen) (by rw [List.getElem?_map, hy]; rfl) (by rw [hvx]; exact hq) ?_).mono ?_
  · intro j g v hg hv
    rw [List.getElem?_map] at hv
    cases hx : xs.toList[j]? with
    | none => rw [hx] at hv; cases hv
    | some x =>
      rw [hx] at hv; cases hv
      have := hall j g x hg hx h a hn
      unfold Fact.dv at this
      rw [hdp g (List.mem_cons_of_mem _ (List.mem_of_getElem? hg))] at this
      exact this
  · rintro e' w' ⟨v, h', x', rfl, hl, hst', hp, hq'⟩
    refine hnext v h' w' (set1 (fun k => if k = s then none else L k) d x') hl ?_ ?_ ?_
    · unfold Fact.dv
      rw [hdp post List.mem_cons_self]
      exact hp
    · generalize (fun k => if k = s then none else L k) = L0 at hst'
      refine hst'.reind (fun k => match k with | .inl k => if k = d then .inl () else .inr (.inl k) | .inr k => .inr (.inr k)) ?_ ?_
      · intro k e hk
        cases k with
        | inr k => exact hk
        | inl k =>
          by_cases hkd : k = d
          · subst hkd; simp [set1] at hk; simp [hk]
          · simp [set1, hkd] at hk; simp [hkd, hk]
      · intro k k' e1 e2 h1 h2 hne
        cases k with
        | inr k => cases k' with
          | inr k' => intro he; exact hne (by rw [Sum.inr.inj (Sum.inr.inj he)])
          | inl k' => intro he; simp only [] at he; split at he <;> cases he
        | inl k => cases k' with
          | inr k' => intro he; simp only [] at he; split at he <;> cases he
          | inl k' =>
            have hne' : k ≠ k' := fun x => hne (by rw [x])
            simp only []
            intro he
            split at he <;> split at he
            · rename_i h3 h4; exact hne' (h3.trans h4.symm)
            · cases he
            · cases he
            · exact hne' (Sum.inl.inj (Sum.inr.inj he))
    · rw [hdst]
      intro k
      have hsd' : Nat.beq s d = false := hsd
      by_cases hk : k = d
      · subst hk
        have : lkU (full [(s, none), (k, some q')] (some k)) k = some (some q') := by simp [full, lkU, hsd', Nat.beq_refl]
        rw [this]; exact ⟨x', by simp [set1], by rw [gt_put_same (hdn k hdst)]; exact hq'⟩
      · by_cases hks : k = s
        · subst hks
          have : lkU (full [(k, none), (d, some q')] (some d)) k = some none := by simp [full, lkU, Nat.beq_refl]
          rw [this]; trivial
        · have h1 : Nat.beq s k = false := by rw [Bool.eq_false_iff, Ne, nbeq]; exact fun x => hks x.symm
          have h2 : Nat.beq d k = false := by rw [Bool.eq_false_iff, Ne, nbeq]; exact fun x => hk x.symm
          have : lkU (full [(s, none), (d, some q')] (some d)) k = none := by simp [full, lkU, h1, h2]
          rw [this]; simp [set1, hk, hks]
theorem ok_callM0 {s i : Nat} {ι : Type} {q0 q0' : OwnP} {q q' : ι → OwnP} {fx : Fact} {f : FuncId} {fn : Func} {args : List Fact} {post : Fact} {xs : Array Operand} {ts : Array TypeId} {y : Operand}
    (hc : ∀ k, FnOkM P f args i (q k) (q' k) post) (hb : Borrow s fx q0 q0' q q') (hfx : fx.dep = some s) (hf : P.funcs[f]? = some fn) (hbd : isBody fn = true) (hd : depNone (post :: args) = true) (hds : dstNe o.dst s = true)
    (ho : o.op = .call { callee := .value (.func f), args := xs, argTypes := ts }) (hy : xs.toList[i]? = some y) (hyx : OpdOk N y fx) (hargs : ArgsOk N args xs.toList) : OpOk P o N [(s, q0)] Fact.triv [(s, some q0')] :=
  OpOk.out (depNone_spec hd post List.mem_cons_self) (fun _ _ _ _ => trivial) (ok_callM hc hb hfx hf hbd hd hds ho hy hyx hargs)
end Go.KB
