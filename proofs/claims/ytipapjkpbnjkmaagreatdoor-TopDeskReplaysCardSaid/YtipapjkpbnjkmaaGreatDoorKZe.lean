/- Functions that use what lies at known places: entries under keys that are slots, or no slots. Ranges over maps that are owned: whatever the order. Ranges over functions: the iterator, yield, the rounds. The rule on ranges over functions. No condition. -/
import Derived.Test.YtipapjkpbnjkmaaGreatDoorKZd
import Derived.Maps.RangeRun
import Derived.RangeFuncCalls
import Derived.RangeFuncBound
namespace Go.KB
variable {P : Program} {o : Oper} {N : List (Nat × jJa)} {α β γ : Type}
def plc (vs : Nat → Value) (k : Nat) : Value := bif Nat.ble 5000 k then undef else vs k
def jT4 : List (Nat × jX3) → (Nat → Option Ent) → (Nat → Value) → Prop
 | [], _, _ => True
 | (k, q) :: r, E, g => (∃ e, E k = some e ∧ q (g k) e) ∧ jT4 r E g
inductive Po where
 | keep
 | to (q : jX3)
 | gone
def jLx : List (Nat × jX3) → List Po → (Nat → Option Ent) → (Nat → Value) → Prop
 | (k, q0) :: r, p :: ps, E, g => (match p with | .to q => ∃ e, E k = some e ∧ q (g k) e | .keep => ∃ e, E k = some e ∧ q0 (g k) e | .gone => True) ∧ jLx r ps E g
 | _, _, _, _ => True
def qKk (own : Option jX3) (E : Nat → Option Ent) (u : Value) : Prop := match own with | some q => ∃ e, E 9999 = some e ∧ q u e | none => True
def jWf (P : Program) (f : FuncId) (args : List jJa) (pre : List (Nat × jX3)) (post : List Po) (own : Option jX3) (res : jJa) : Prop :=
 ∀ (κ : Type) (B : Base) (L : κ → Option Ent) (h : H) (w : World) (vs : List Value) (E : Nat → Option Ent), St B h (Sum.elim E L) w → args.length = vs.length → jT4 pre E (plc fun k => vs.getD k undef) →
  (∀ (j : Nat) (g : jJa) (u : Value), args[j]? = some g → vs[j]? = some u → g.p h undef u) →
  Calls P f vs.toArray w (fun e w' => ∃ u h' E', e = .returned u ∧ Hle h h' ∧ St B h' (Sum.elim E' L) w' ∧ jLx pre post E' (plc fun k => vs.getD k undef) ∧ qKk own E' u ∧ res.p h' undef u)
def jH4 (P : Program) (fn : Func) {κ : Type} (B : Base) (h0 : H) (F : κ → Option Ent) (vM : Nat → Value) (pre : List (Nat × jX3)) (post : List Po) (own : Option jX3) (res : jJa) : Exit → Act → World → Prop :=
 fun e a w => B.df = [] → jRr P fn (fun e w' => ∃ u h' E', e = .returned u ∧ Hle h0 h' ∧ St B h' (Sum.elim E' F) w' ∧ jLx pre post E' (plc vM) ∧ qKk own E' u ∧ res.p h' undef u) e a w
theorem jT4.get {E : Nat → Option Ent} {g : Nat → Value} : ∀ {pre : List (Nat × jX3)}, jT4 pre E g → ∀ {k q}, mkO pre k = some q → ∃ e, E k = some e ∧ q (g k) e := by
 intro pre
 induction pre with
 | nil => intro _ k q h; cases h
 | cons x r ih =>
  obtain ⟨k0, q0⟩ := x
  intro h k q hq
  simp only [mkO, lkO] at hq
  cases hk : Nat.beq k0 k with
  | true => rw [hk] at hq; cases hq; rw [jWm] at hk; subst hk; exact h.1
  | false => rw [hk] at hq; exact ih h.2 hq
def pmG (pm : List Nat) (vM : Nat → Value) : List (Nat × jJa) := pm.map fun i => (i, fIs (vM i))
theorem lkF_pm {Γ : List (Nat × jJa)} {vM : Nat → Value} : ∀ {pm : List Nat} {s : Nat}, lkF (pmG pm vM ++ Γ) s = fIs (vM s) ∨ lkF (pmG pm vM ++ Γ) s = lkF Γ s := by
 intro pm
 induction pm with
 | nil => intro s; exact .inr rfl
 | cons i r ih =>
  intro s
  show (bif Nat.beq i s then fIs (vM i) else lkF (pmG r vM ++ Γ) s) = _ ∨ (bif Nat.beq i s then fIs (vM i) else lkF (pmG r vM ++ Γ) s) = _
  cases hk : Nat.beq i s with
  | true => rw [jWm] at hk; subst hk; exact .inl rfl
  | false => exact ih
theorem jRa {vs : List Value} {m : Nat} (k : Nat) : Act.gt { tmps := vs.toArray ++ Array.replicate m undef, defers := [] } k = vs.getD k undef := by
  simp only [Act.gt, Array.getD_eq_getD_getElem?, List.getD_eq_getElem?_getD]
  by_cases hk : k < vs.length
  · rw [Array.getElem?_append_left (by simpa using hk)]; simp
  · rw [Array.getElem?_append_right (by simp; omega)]
    simp only [Array.getElem?_replicate, List.getElem?_eq_none (Nat.le_of_not_lt hk)]
    split <;> rfl
theorem jQm {n : Nat} {f : FuncId} {fn : Func} {c : Code} {args : List jJa} {pre : List (Nat × jX3)} {post : List Po} {own : Option jX3} {res : jJa} (pm : List Nat) (hf : P.funcs[f]? = some fn) (hb : fn.body = some c) (hn : fn.ntmps = n)
  (hchk : (Nat.ble args.length n && Nat.ble n 5000 && jKb args) = true)
  (hwp : ∀ (κ : Type) (B : Base) (h0 : H) (F : κ → Option Ent) (a : Act) (w : World) (vM : Nat → Value), At B h0 (mkG (pmG pm vM ++ jA7 0 args)) (mkO pre) F n a w → c.wpK none P (jH4 P fn B h0 F vM pre post own res) a w) : jWf P f args pre post own res := by
 intro κ B L h w vs E hst hl hpre hargs
 simp only [Bool.and_eq_true, Nat.ble_eq] at hchk
 obtain ⟨⟨hlen, hn5⟩, hdp⟩ := hchk
 have hdep := jY7 hdp
 refine jDp rfl hf hb (hwp _ B.e h L _ w (fun k => vs.getD k undef) ⟨h, E, Hle.refl h, hst.toE, ?_, ?_, ?_, rfl⟩) (fun _ _ ⟨v, h', x, he, hl, hs, hp⟩ => ⟨v, h', x, he, hl, hs.ofE, hp⟩)
 ·intro s q hs
  obtain ⟨e, he, hq⟩ := hpre.get hs
  refine ⟨e, he, ?_⟩
  rw [jRa]
  unfold plc at hq
  cases h5 : Nat.ble 5000 s with
  | false => rw [h5] at hq; exact hq
  | true =>
   rw [h5] at hq
   rw [Nat.ble_eq] at h5
   rw [List.getD_eq_getElem?_getD, List.getElem?_eq_none (by omega)]
   exact hq
 ·intro s
  rcases lkF_pm (pm := pm) (Γ := jA7 0 args) (vM := fun k => vs.getD k undef) (s := s) with h1 | h1
  ·show (lkF (pmG pm _ ++ jA7 0 args) s).at _ _ _
   rw [h1]; exact jRa s
  ·show (lkF (pmG pm _ ++ jA7 0 args) s).at _ _ _
   rw [h1]
   rcases jN7 args 0 s with h1 | ⟨j, g, h1, h2, h3⟩
   ·rw [h1]; exact trivial
   ·rw [h3]
    have hj := (List.getElem?_eq_some_iff.1 h1).1
    have hv : vs[j]? = some vs[j] := List.getElem?_eq_getElem (by omega)
    have := hargs j g _ h1 hv
    unfold jJa.at jJa.dv
    rw [hdep g (List.mem_of_getElem? h1), h2, Nat.zero_add, jRa, List.getD_eq_getElem?_getD, hv]
    exact this
 ·simp; omega
section
variable {κ : Type} {B : Base} {h h0 : H} {L : Nat → Option Ent} {Γ : Ctx} {Λ : Own} {F : κ → Option Ent} {n : Nat} {a : Act} {w : World} {vM : Nat → Value} {pre : List (Nat × jX3)} {post : List Po} {res : jJa}
def Gh (q : jX3) : Prop := ∀ v v' e, q v e → q v' e
theorem Gh.at {q : jX3} {sv : Value} : Gh (atV q sv) := fun _ _ _ h => h
def PostA (Γ : Ctx) (Λ : Own) (vM : Nat → Value) : List (Nat × jX3) → List Po → Prop
 | (k, q0) :: r, p :: ps => (match p with | .to q => Λ k = some q ∧ ((Nat.ble 5000 k = true ∧ Gh q) ∨ (Nat.ble 5000 k = false ∧ Γ k = fIs (vM k))) | .keep => Λ k = some q0 ∧ ((Nat.ble 5000 k = true ∧ Gh q0) ∨ (Nat.ble 5000 k = false ∧ Γ k = fIs (vM k))) | .gone => True) ∧ PostA Γ Λ vM r ps
 | _, _ => True
theorem PostA.ok {E : Nat → Option Ent} (hOw : jC9 Λ L a) (hsat : Sat Γ h a) : ∀ {pre : List (Nat × jX3)} {post : List Po}, PostA Γ Λ vM pre post → (∀ k q, (k, q) ∈ pre → E k = L k) → jLx pre post E (plc vM) := by
 intro pre
 induction pre with
 | nil => intro post _ _; cases post <;> trivial
 | cons x r ih =>
  obtain ⟨k, q0⟩ := x
  intro post hp hE
  cases post with
  | nil => trivial
  | cons p ps =>
   refine ⟨?_, ih hp.2 (fun k q hk => hE k q (List.mem_cons_of_mem _ hk))⟩
   have key : ∀ q, Λ k = some q ∧ ((Nat.ble 5000 k = true ∧ Gh q) ∨ (Nat.ble 5000 k = false ∧ Γ k = fIs (vM k))) → ∃ e, E k = some e ∧ q (plc vM k) e := by
    rintro q ⟨h1, h2⟩
    obtain ⟨e, hL, hq⟩ := hOw k q h1
    refine ⟨e, by rw [hE k q0 (by simp)]; exact hL, ?_⟩
    unfold plc
    rcases h2 with ⟨h5, hg⟩ | ⟨h5, hf⟩
    ·exact hg _ _ _ hq
    ·rw [h5, cond_false]
     have := hsat k
     rw [hf] at this
     have hv : a.gt k = vM k := this
     rw [← hv]; exact hq
   cases p with
   | gone => trivial
   | to q => exact key q hp.1
   | keep => exact key q0 hp.1
def qQd (P : Program) (Γ : Ctx) (Λ : Own) (fn : Func) (res : jJa) : Prop :=
 ∀ (κ : Type) (B : Base) (F : κ → Option Ent) (h : H) (a : Act) (w : World), ∀ L, St B h (Sum.elim L F) w → jC9 Λ L a → Sat Γ h a → ∃ v, (results fn a.tmps).run P w = .ok v w ∧ res.p h undef v
theorem qW4 {fn : Func} (hr : fn.results = #[]) : qQd P Γ Λ fn fT0 := fun _ _ _ _ a w _ _ _ _ => ⟨.tuple #[], by simp [results, hr], rfl⟩
theorem jZl {fn : Func} {rv : ResultVar} {g : jJa} (hr : fn.results = #[rv]) (h1 : qJg P Γ Λ rv g) : qQd P Γ Λ fn g := fun _ B F h a w L hst hOw hsat => by
 obtain ⟨u, hu, hp⟩ := h1 _ B F h a w L hst hOw hsat
 exact ⟨u, by rw [jKw]; simp [hr, hu], hp⟩
theorem jFg {fn : Func} {rv rv' : ResultVar} {g g' : jJa} (hr : fn.results = #[rv, rv']) (h1 : qJg P Γ Λ rv g) (h2 : qJg P Γ Λ rv' g') : qQd P Γ Λ fn (fT2 g g') := fun _ B F h a w L hst hOw hsat => by
 obtain ⟨u, hu, hp⟩ := h1 _ B F h a w L hst hOw hsat
 obtain ⟨u', hu', hp'⟩ := h2 _ B F h a w L hst hOw hsat
 exact ⟨.tuple #[u, u'], by rw [jKw]; simp [hr, hu, hu'], u, u', rfl, hp, hp'⟩
theorem resG3 {fn : Func} {rv rv' rv'' : ResultVar} {g g' g'' : jJa} (hr : fn.results = #[rv, rv', rv'']) (h1 : qJg P Γ Λ rv g) (h2 : qJg P Γ Λ rv' g') (h3 : qJg P Γ Λ rv'' g'') : qQd P Γ Λ fn (fT3 g g' g'') := fun _ B F h a w L hst hOw hsat => by
 obtain ⟨u, hu, hp⟩ := h1 _ B F h a w L hst hOw hsat
 obtain ⟨u', hu', hp'⟩ := h2 _ B F h a w L hst hOw hsat
 obtain ⟨u'', hu'', hp''⟩ := h3 _ B F h a w L hst hOw hsat
 exact ⟨.tuple #[u, u', u''], by rw [jKw]; simp [hr, hu, hu', hu''], u, u', u'', rfl, hp, hp', hp''⟩
theorem jYx {fn : Func} (hA : PostA Γ Λ vM pre post) (hR : qQd P Γ Λ fn res) (hAt : At B h0 Γ Λ F n a w) : jH4 P fn B h0 F vM pre post none res .ret a w := by
 obtain ⟨h, L, hl, hst, hOw, hsat, _, hdf⟩ := hAt
 obtain ⟨u, hu, hp⟩ := hR _ B F h a w L hst hOw hsat
 exact fun hB => .inl ⟨hdf.trans hB, u, hu, u, h, L, rfl, hl, hst, hA.ok hOw hsat (fun _ _ _ => rfl), trivial, hp⟩
theorem retGn {fn : Func} (hA : PostA Γ Λ vM pre post) (hR : qQd P Γ Λ fn res) (hAt : At B h0 Γ Λ F n a w) : jH4 P fn B h0 F vM pre post none res .normal a w := jYx hA hR hAt
def jR2 (L : Nat → Option Ent) (s : Nat) : Nat → Option Ent := fun k => if k = 9999 then L s else if k = s then none else L k
theorem St.jR2 (hst : St B h (Sum.elim L F) w) (s : Nat) : St B h (Sum.elim (jR2 L s) F) w := by
 refine hst.reind (fun k => match k with | .inl k => if k = 9999 then .inl s else .inl k | .inr x => .inr x) ?_ ?_
 ·intro k e hk
  cases k with
  | inr x => exact hk
  | inl k =>
   simp only [Sum.elim_inl, KB.jR2] at hk
   simp only []
   split at hk
   ·rename_i h1; rw [if_pos h1]; exact hk
   ·rename_i h1
    rw [if_neg h1]
    split at hk
    ·cases hk
    ·exact hk
 ·intro k k' e e' hk hk' hne
  cases k with
  | inr x => cases k' with
   | inr x' => intro he; exact hne (by rw [Sum.inr.inj he])
   | inl k' => intro he; simp only [] at he; split at he <;> cases he
  | inl k => cases k' with
   | inr x' => intro he; simp only [] at he; split at he <;> cases he
   | inl k' =>
    have hkk : k ≠ k' := fun x => hne (by rw [x])
    simp only [Sum.elim_inl, KB.jR2] at hk hk'
    intro he
    simp only [] at he
    split at he <;> split at he
    ·rename_i h1 h2; exact hkk (h1.trans h2.symm)
    ·rename_i h1 h2
     rw [if_neg h2] at hk'
     split at hk'
     ·cases hk'
     ·rename_i h3; exact h3 (Sum.inl.inj he).symm
    ·rename_i h1 h2
     rw [if_neg h1] at hk
     split at hk
     ·cases hk
     ·rename_i h3; exact h3 (Sum.inl.inj he)
    ·exact hkk (Sum.inl.inj he)
def jAd (s : Nat) : List (Nat × jX3) → Bool
 | [] => true
 | (k, _) :: r => !(Nat.beq k s) && !(Nat.beq k 9999) && jAd s r
theorem jNu {s : Nat} : ∀ {l : List (Nat × jX3)}, jAd s l = true → ∀ k q, (k, q) ∈ l → k ≠ s ∧ k ≠ 9999 := by
 intro l
 induction l with
 | nil => intro _ k q h; cases h
 | cons x r ih =>
  intro h k q hk
  obtain ⟨k0, q0⟩ := x
  simp only [jAd, Bool.and_eq_true, Bool.not_eq_true'] at h
  rcases List.mem_cons.1 hk with h1 | h1
  ·cases h1
   exact ⟨fun x => by rw [jWm.2 x] at h; exact absurd h.1.1 (by simp), fun x => by rw [jWm.2 x] at h; exact absurd h.1.2 (by simp)⟩
  ·exact ih h.2 k q h1
theorem qW0 {s k : Nat} (h1 : k ≠ s) (h2 : k ≠ 9999) : jR2 L s k = L k := by unfold jR2; rw [if_neg h2, if_neg h1]
theorem retGO1 {fn : Func} {s : Nat} {q : jX3} (hr : fn.results = #[.tmp s]) (hs : Λ s = some q) (hk : jAd s pre = true) (hA : PostA Γ Λ vM pre post) (hAt : At B h0 Γ Λ F n a w) : jH4 P fn B h0 F vM pre post (some q) jJa.triv .ret a w := by
 obtain ⟨h, L, hl, hst, hOw, hsat, _, hdf⟩ := hAt
 obtain ⟨e, hL, hq⟩ := hOw s q hs
 have hv : (resV a.tmps (.tmp s)).run P w = .ok (a.gt s) w := rfl
 refine fun hB => .inl ⟨hdf.trans hB, a.gt s, ?_, a.gt s, h, jR2 L s, rfl, hl, hst.jR2 s, hA.ok hOw hsat (fun k q hm => qW0 (jNu hk k q hm).1 (jNu hk k q hm).2), ⟨e, by simp [jR2, hL], hq⟩, trivial⟩
 rw [jKw]; simp [hr, hv]
end
def qYs (C : List jJa) (h : H) (cap : List Value) : Prop := cap.length = C.length ∧ ∀ (j : Nat) (g : jJa) (u : Value), C[j]? = some g → cap[j]? = some u → g.p h undef u
def jK4 (f : FuncId) (C : List jJa) : jJa := ⟨none, fun h _ v => ∃ cap : List Value, v = .func (.func f) #[] cap.toArray ∧ qYs C h cap, fun hl ⟨cap, e, h1, k⟩ => ⟨cap, e, h1, fun j g u hg hu => g.mono hl (k j g u hg hu)⟩⟩
theorem qJs {f : FuncId} {C : List jJa} {xs : Array Operand} (hd : jKb C = true) (ho : o.op = .makeFunc (.func f) #[] xs) (hargs : jDu N C xs.toList) : jXg P o N [] (jK4 f C) [] :=
 jXg.ofRun fun h a w _ hn => by
  have hdp := jY7 hd
  obtain ⟨hlen, hall⟩ := hargs.spec
  refine ⟨.func (.func f) #[] (xs.map a.eval), by simp [execOp, ho, Instr.makeFunc], xs.toList.map a.eval, by congr 1; apply Array.ext'; simp, by rw [List.length_map]; exact hlen.symm, fun j g u hg hu => ?_⟩
  rw [List.getElem?_map] at hu
  cases hx : xs.toList[j]? with
  | none => rw [hx] at hu; cases hu
  | some x =>
   rw [hx] at hu; cases hu
   have := hall j g x hg hx h a hn
   unfold jJa.dv at this
   rw [hdp g (List.mem_of_getElem? hg)] at this
   exact this
def jRy (P : Program) (N : List (Nat × jJa)) (o : Oper) (xs : List Operand) (f : FuncId) (C : List jJa) : Prop :=
 ∀ (h : H) (a : Act) (w : World), jPu N h a → ∃ cap : List Value, qYs C h cap ∧ (execOp a.eval o).run P w = .ok (.enter f (xs.map a.eval ++ cap).toArray) w
theorem jJp {f : FuncId} {fn : Func} {xs : Array Operand} {ts : Array TypeId} (hf : P.funcs[f]? = some fn) (hbd : jD2 fn = true) (ho : o.op = .call { callee := .value (.func f), args := xs, argTypes := ts }) : jRy P N o xs.toList f [] := by
 intro h a w _
 simp only [jD2, Bool.and_eq_true, Bool.not_eq_true'] at hbd
 have hbody : fn.body ≠ none := by
  intro hx; rw [hx] at hbd; cases hbd.1
 have hname : fn.name ≠ "runtime.NumGoroutine" := by simpa using hbd.2
 refine ⟨[], ⟨rfl, fun j g u hg => by simp at hg⟩, ?_⟩
 have e : (xs.toList.map a.eval ++ []).toArray = xs.map a.eval := by apply Array.ext'; simp
 rw [e]
 simp [execOp, ho, resolve, Act.eval, Deferred.ofValue, invoke, callFunc, hf, hname, hbody]
theorem jZ8 {f : FuncId} {fn : Func} {C : List jJa} {z : Operand} {xs : Array Operand} {ts : Array TypeId} (hf : P.funcs[f]? = some fn) (hbd : jD2 fn = true) (ho : o.op = .call { callee := .value z, args := xs, argTypes := ts }) (hz : jJ9 N z (jK4 f C)) : jRy P N o xs.toList f C := by
 intro h a w hn
 simp only [jD2, Bool.and_eq_true, Bool.not_eq_true'] at hbd
 have hbody : fn.body ≠ none := by
  intro hx; rw [hx] at hbd; cases hbd.1
 have hname : fn.name ≠ "runtime.NumGoroutine" := by simpa using hbd.2
 obtain ⟨cap, hv, hc⟩ := hz h a hn
 refine ⟨cap, hc, ?_⟩
 have e : (xs.toList.map a.eval ++ cap).toArray = xs.map a.eval ++ cap.toArray := by apply Array.ext'; simp
 rw [e]
 simp [execOp, ho, resolve, hv, Deferred.ofValue, invoke, callFunc, hf, hname, hbody]
def toC : List (Nat × jX3) → List Nat → Nat → Option Nat
 | (k, _) :: r, g :: gs, x => bif Nat.beq k x then some g else toC r gs x
 | _, _, _ => none
def ofC : List (Nat × jX3) → List Nat → Nat → Option Nat
 | (k, _) :: r, g :: gs, x => bif Nat.beq g x then some k else ofC r gs x
 | _, _, _ => none
def hasK : List (Nat × jX3) → Nat → Bool
 | [], _ => false
 | (k, _) :: r, x => Nat.beq k x || hasK r x
def jR1 : List (Nat × jX3) → List Nat → Bool
 | (k, _) :: r, g :: gs => !(has gs g) && !(hasK r k) && !(Nat.beq k 9999) && jR1 r gs
 | [], [] => true
 | _, _ => false
theorem qXc : ∀ {pre : List (Nat × jX3)} {gs : List Nat} {k g : Nat}, toC pre gs k = some g → has gs g = true ∧ hasK pre k = true := by
 intro pre
 induction pre with
 | nil => intro gs k g h; cases gs <;> cases h
 | cons x r ih =>
  obtain ⟨k0, q⟩ := x
  intro gs k g h
  cases gs with
  | nil => cases h
  | cons g0 gs =>
   simp only [toC] at h
   cases hk : Nat.beq k0 k with
   | true => rw [hk] at h; cases h; simp [has, hasK, hk, Nat.beq_refl]
   | false => rw [hk] at h; have := ih h; simp [has, hasK, this.1, this.2]
theorem jTt : ∀ {pre : List (Nat × jX3)} {gs : List Nat} {k g : Nat}, ofC pre gs g = some k → has gs g = true ∧ hasK pre k = true := by
 intro pre
 induction pre with
 | nil => intro gs k g h; cases gs <;> cases h
 | cons x r ih =>
  obtain ⟨k0, q⟩ := x
  intro gs k g h
  cases gs with
  | nil => cases h
  | cons g0 gs =>
   simp only [ofC] at h
   cases hk : Nat.beq g0 g with
   | true => rw [hk] at h; cases h; simp [has, hasK, hk, Nat.beq_refl]
   | false => rw [hk] at h; have := ih h; simp [has, hasK, this.1, this.2]
theorem qYr : ∀ {pre : List (Nat × jX3)} {gs : List Nat} {k g : Nat}, jR1 pre gs = true → toC pre gs k = some g → ofC pre gs g = some k := by
 intro pre
 induction pre with
 | nil => intro gs k g _ h; cases gs <;> cases h
 | cons x r ih =>
  obtain ⟨k0, q⟩ := x
  intro gs k g hc h
  cases gs with
  | nil => cases h
  | cons g0 gs =>
   simp only [jR1, Bool.and_eq_true, Bool.not_eq_true'] at hc
   simp only [toC] at h
   simp only [ofC]
   cases hk : Nat.beq k0 k with
   | true => rw [hk] at h; cases h; rw [jWm] at hk; rw [hk, Nat.beq_refl]; rfl
   | false =>
    rw [hk] at h
    have h1 := qXc h
    have h2 : Nat.beq g0 g = false := by
     rw [Bool.eq_false_iff, Ne, jWm]; intro e; subst e; rw [h1.1] at hc; exact absurd hc.1.1.1 (by simp)
    rw [h2]; exact ih hc.2 h
theorem qJn : ∀ {pre : List (Nat × jX3)} {gs : List Nat} {k g : Nat}, jR1 pre gs = true → ofC pre gs g = some k → toC pre gs k = some g := by
 intro pre
 induction pre with
 | nil => intro gs k g _ h; cases gs <;> cases h
 | cons x r ih =>
  obtain ⟨k0, q⟩ := x
  intro gs k g hc h
  cases gs with
  | nil => cases h
  | cons g0 gs =>
   simp only [jR1, Bool.and_eq_true, Bool.not_eq_true'] at hc
   simp only [ofC] at h
   simp only [toC]
   cases hk : Nat.beq g0 g with
   | true => rw [hk] at h; cases h; rw [jWm] at hk; rw [hk, Nat.beq_refl]; rfl
   | false =>
    rw [hk] at h
    have h1 := jTt h
    have h2 : Nat.beq k0 k = false := by
     rw [Bool.eq_false_iff, Ne, jWm]; intro e; subst e; rw [h1.2] at hc; exact absurd hc.1.1.2 (by simp)
    rw [h2]; exact ih hc.2 h
theorem qZ0 : ∀ {pre : List (Nat × jX3)} {gs : List Nat}, jR1 pre gs = true → hasK pre 9999 = false := by
 intro pre
 induction pre with
 | nil => intro gs _; rfl
 | cons x r ih =>
  obtain ⟨k0, q⟩ := x
  intro gs hc
  cases gs with
  | nil => cases hc
  | cons g0 gs =>
   simp only [jR1, Bool.and_eq_true, Bool.not_eq_true'] at hc
   simp only [hasK, hc.1.2, ih hc.2, Bool.or_self]
def qKe : List (Nat × jX3) → List Nat → List (Nat × jX3)
 | (_, q) :: r, g :: gs => (g, q) :: qKe r gs
 | _, _ => []
def jCh : List Nat → List Po → Upd
 | g :: gs, .to q :: ps => (g, some q) :: jCh gs ps
 | g :: gs, .gone :: ps => (g, none) :: jCh gs ps
 | _ :: gs, .keep :: ps => jCh gs ps
 | _, _ => []
def qKg (own : Option jX3) (d : Option Nat) : Upd := match own, d with | some q, some d => [(d, some q)] | _, _ => []
def jUg (N : List (Nat × jJa)) (xs : List Operand) : List (Nat × jX3) → List Po → List Nat → Prop
 | (k, q) :: r, p :: ps, g :: gs => ((Nat.ble 5000 k = true ∧ Gh q ∧ (∀ q', p = .to q' → Gh q')) ∨ (Nat.ble 5000 k = false ∧ ∃ x, xs[k]? = some x ∧ jJ9 N x (fCp g))) ∧ jUg N xs r ps gs
 | [], [], [] => True
 | _, _, _ => False
theorem jUg.gh {xs : List Operand} {k g : Nat} {q : jX3} {p : Po} {r ps gs} (h5 : Nat.ble 5000 k = true) (h1 : Gh q) (h2 : ∀ q', p = .to q' → Gh q') (h : jUg N xs r ps gs) : jUg N xs ((k, q) :: r) (p :: ps) (g :: gs) := ⟨.inl ⟨h5, h1, h2⟩, h⟩
def Po.nt : Po → Bool
 | .to _ => false
 | _ => true
theorem jUg.slot {xs : List Operand} {k g : Nat} {q : jX3} {p : Po} {x : Operand} {r ps gs} (h5 : Nat.ble 5000 k = false) (h1 : xs[k]? = some x) (h2 : jJ9 N x (fCp g)) (h : jUg N xs r ps gs) : jUg N xs ((k, q) :: r) (p :: ps) (g :: gs) := ⟨.inr ⟨h5, x, h1, h2⟩, h⟩
theorem jD8 : ∀ {gs : List Nat} {post : List Po} {s : Nat}, has gs s = false → lkU (jCh gs post) s = none := by
 intro gs
 induction gs with
 | nil => intro post s _; cases post <;> rfl
 | cons g gs ih =>
  intro post s h
  cases post with
  | nil => rfl
  | cons p ps =>
   simp only [has, Bool.or_eq_false_iff] at h
   cases p <;> simp only [jCh, lkU, h.1, cond_false] <;> exact ih h.2
theorem has_of : ∀ {pre : List (Nat × jX3)} {gs : List Nat} {s : Nat}, jR1 pre gs = true → ofC pre gs s = none → has gs s = false := by
 intro pre
 induction pre with
 | nil => intro gs s hc h; cases gs with
  | nil => rfl
  | cons _ _ => cases hc
 | cons x r ih =>
  obtain ⟨k0, q⟩ := x
  intro gs s hc h
  cases gs with
  | nil => rfl
  | cons g gs =>
   simp only [jR1, Bool.and_eq_true, Bool.not_eq_true'] at hc
   simp only [ofC] at h
   cases hb : Nat.beq g s with
   | true => rw [hb] at h; cases h
   | false => rw [hb] at h; simp only [has, hb, Bool.false_or]; exact ih hc.2 h
section
variable {L : Nat → Option Ent} {h : H} {a : Act} {xs : List Operand} {cap : List Value}
theorem qKd {E : Nat → Option Ent} (hn : jPu N h a) : ∀ {pre : List (Nat × jX3)} {post : List Po} {gs : List Nat}, jUg N xs pre post gs → qUu (qKe pre gs) L a → (∀ k g, toC pre gs k = some g → E k = L g) → jR1 pre gs = true → jT4 pre E (plc fun k => (xs.map a.eval ++ cap).getD k undef) := by
 intro pre
 induction pre with
 | nil => intro post gs _ _ _ _; trivial
 | cons x r ih =>
  obtain ⟨k, q⟩ := x
  intro post gs hk hK hE hc
  cases post with
  | nil => cases gs <;> exact hk.elim
  | cons p ps => cases gs with
   | nil => exact hk.elim
   | cons g gs =>
    obtain ⟨h1, h2⟩ := hk
    obtain ⟨⟨e, hL, hq⟩, hK⟩ := hK
    have hc0 := hc
    simp only [jR1, Bool.and_eq_true, Bool.not_eq_true'] at hc
    refine ⟨⟨e, by rw [hE k g (by simp [toC, Nat.beq_refl])]; exact hL, ?_⟩, ih h2 hK (fun k' g' hk' => hE k' g' ?_) hc.2⟩
    ·unfold plc
     rcases h1 with ⟨h5, hg, _⟩ | ⟨h5, y, hy, hyx⟩
     ·exact hg _ _ _ hq
     ·rw [h5, cond_false]
      have hv : a.eval y = a.gt g := hyx h a hn
      have : (xs.map a.eval ++ cap).getD k undef = a.eval y := by
       have hlt := (List.getElem?_eq_some_iff.1 hy).1
       rw [List.getD_eq_getElem?_getD, List.getElem?_append_left (by simpa using hlt), List.getElem?_map, hy]; rfl
      show q ((xs.map a.eval ++ cap).getD k undef) e
      rw [this, hv]; exact hq
    ·have h3 := qXc hk'
     have : Nat.beq k k' = false := by
      rw [Bool.eq_false_iff, Ne, jWm]; intro e; subst e; rw [h3.2] at hc; exact absurd hc.1.1.2 (by simp)
     simp only [toC, this, cond_false]; exact hk'
theorem upd_of {E : Nat → Option Ent} {L' : Nat → Option Ent} {a' : Act} (hn : jPu N h a) {s : Nat} (ha : a'.gt s = a.gt s) : ∀ {pre : List (Nat × jX3)} {post : List Po} {gs : List Nat}, jUg N xs pre post gs → jLx pre post E (plc fun k => (xs.map a.eval ++ cap).getD k undef) →
  jR1 pre gs = true → ∀ k, ofC pre gs s = some k → L' s = E k →
  (∃ q, lkU (jCh gs post) s = some (some q) ∧ ∃ e, L' s = some e ∧ q (a'.gt s) e) ∨ lkU (jCh gs post) s = some none ∨ (lkU (jCh gs post) s = none ∧ ∃ q, (s, q) ∈ qKe pre gs ∧ ∃ e, L' s = some e ∧ q (a'.gt s) e) := by
 intro pre
 induction pre with
 | nil => intro post gs _ _ _ k hk; cases gs <;> cases hk
 | cons x r ih =>
  obtain ⟨k0, q⟩ := x
  intro post gs hk hp hc k hof hL
  cases post with
  | nil => cases gs <;> exact hk.elim
  | cons p ps => cases gs with
   | nil => exact hk.elim
   | cons g gs =>
    obtain ⟨h1, h2⟩ := hk
    simp only [jR1, Bool.and_eq_true, Bool.not_eq_true'] at hc
    simp only [ofC] at hof
    cases hb : Nat.beq g s with
    | false =>
     rw [hb] at hof
     have hlk : lkU (jCh (g :: gs) (p :: ps)) s = lkU (jCh gs ps) s := by
      cases p <;> simp [jCh, lkU, hb]
     rw [hlk]
     rcases ih h2 hp.2 hc.2 k hof hL with h | h | ⟨h3, q', h4, h5⟩
     ·exact .inl h
     ·exact .inr (.inl h)
     ·exact .inr (.inr ⟨h3, q', List.mem_cons_of_mem _ h4, h5⟩)
    | true =>
     rw [hb] at hof; cases hof
     rw [jWm] at hb; subst hb
     have key : ∀ q' : jX3, (Nat.ble 5000 k0 = true → Gh q') → (∃ e, E k0 = some e ∧ q' (plc (fun k => (xs.map a.eval ++ cap).getD k undef) k0) e) → ∃ e, L' g = some e ∧ q' (a'.gt g) e := by
      rintro q' hgh ⟨e, he, hq⟩
      refine ⟨e, by rw [hL]; exact he, ?_⟩
      unfold plc at hq
      rcases h1 with ⟨h5, _, _⟩ | ⟨h5, y, hy, hyx⟩
      ·exact hgh h5 _ _ _ hq
      ·rw [h5, cond_false] at hq
       have hv : a.eval y = a.gt g := hyx h a hn
       have : (xs.map a.eval ++ cap).getD k0 undef = a.eval y := by
        have hlt := (List.getElem?_eq_some_iff.1 hy).1
        rw [List.getD_eq_getElem?_getD, List.getElem?_append_left (by simpa using hlt), List.getElem?_map, hy]; rfl
       have hq : q' ((xs.map a.eval ++ cap).getD k0 undef) e := hq
       rw [this, hv] at hq
       rw [ha]; exact hq
     cases p with
     | gone => exact .inr (.inl (by simp [jCh, lkU, Nat.beq_refl]))
     | to q' =>
      refine .inl ⟨q', by simp [jCh, lkU, Nat.beq_refl], key q' (fun h5 => ?_) hp.1⟩
      rcases h1 with ⟨_, _, hg⟩ | ⟨h6, _⟩
      ·exact hg q' rfl
      ·rw [h6] at h5; cases h5
     | keep =>
      refine .inr (.inr ⟨(by simp only [jCh]; exact jD8 hc.1.1.1), q, List.mem_cons_self, key q (fun h5 => ?_) hp.1⟩)
      rcases h1 with ⟨_, hg, _⟩ | ⟨h6, _⟩
      ·exact hg
      ·rw [h6] at h5; cases h5
end
theorem jPm {U V : Upd} {s : Nat} : lkU (U ++ V) s = (match lkU U s with | some e => some e | none => lkU V s) := by
 induction U with
 | nil => rfl
 | cons x r ih =>
  obtain ⟨k, e⟩ := x
  simp only [List.cons_append, lkU]
  cases Nat.beq k s with
  | true => rfl
  | false => exact ih
theorem jJs {f : FuncId} {args C : List jJa} {pre : List (Nat × jX3)} {post : List Po} {own : Option jX3} {res : jJa} {xs : List Operand} {gs : List Nat} {K : List (Nat × jX3)} {U : Upd}
    (hc : jWf P f (args ++ C) pre post own res) (hE : jRy P N o xs f C) (hd : jKb (res :: args) = true) (hchk : (jR1 pre gs && !(match o.dst with | some d => has gs d | none => false)) = true)
    (hargs : jDu N args xs) (hkey : jUg N xs pre post gs) (hK : qKe pre gs = K) (hU : jCh gs post ++ qKg own o.dst = U) : jXg P o N K res U := by
  subst hK; subst hU
  intro κ B F L h a w hst hn hk hdn next Q _ hnext
  simp only [Bool.and_eq_true, Bool.not_eq_true'] at hchk
  obtain ⟨hcc, hdg⟩ := hchk
  obtain ⟨cap, hcap, hrun⟩ := hE h a w hn
  have hdp := jY7 hd
  obtain ⟨hlen, hall⟩ := hargs.spec
  have hal := hargs.spec.1
  unfold Oper.wpK
  rw [hrun, jN9]
  have hst1 : St B h (Sum.elim (fun k => (toC pre gs k).bind L) (Sum.elim (fun s => if (ofC pre gs s).isSome then none else L s) F)) w := by
    refine hst.reind (fun k => match k with | .inl k => .inl ((toC pre gs k).getD 0) | .inr (.inl s) => .inl s | .inr (.inr x) => .inr x) ?_ ?_
    · intro k e he
      cases k with
      | inl k =>
        simp only [Sum.elim_inl] at he
        cases ht : toC pre gs k with
        | none => rw [ht] at he; cases he
        | some g => rw [ht] at he; simpa [ht] using he
      | inr k => cases k with
        | inl s =>
          simp only [Sum.elim_inr, Sum.elim_inl] at he
          split at he
          · cases he
          · exact he
        | inr x => exact he
    · intro k k' e e' hk1 hk2 hne
      have key : ∀ k e, (toC pre gs k).bind L = some e → ∃ g, toC pre gs k = some g ∧ ofC pre gs g = some k := by
        intro k e he
        cases ht : toC pre gs k with
        | none => rw [ht] at he; cases he
        | some g => exact ⟨g, rfl, qYr hcc ht⟩
      have keyS : ∀ s e, (if (ofC pre gs s).isSome then none else L s) = some e → ofC pre gs s = none := by
        intro s e he
        split at he
        · cases he
        · rename_i hh; simpa using hh
      cases k with
      | inl k =>
        obtain ⟨g, hg, hg'⟩ := key k e hk1
        cases k' with
        | inl k' =>
          obtain ⟨g2, hg2, hg2'⟩ := key k' e' hk2
          intro he
          simp only [hg, hg2, Option.getD_some] at he
          have := Sum.inl.inj he
          rw [this, hg2'] at hg'; cases hg'; exact hne rfl
        | inr k' => cases k' with
          | inl s =>
            intro he
            simp only [hg, Option.getD_some] at he
            have := Sum.inl.inj he
            have h2 := keyS s e' hk2
            rw [← this, hg'] at h2; cases h2
          | inr x => intro he; cases he
      | inr k => cases k with
        | inl s =>
          have h2 := keyS s e hk1
          cases k' with
          | inl k' =>
            obtain ⟨g2, hg2, hg2'⟩ := key k' e' hk2
            intro he
            simp only [hg2, Option.getD_some] at he
            have := Sum.inl.inj he
            rw [this, hg2'] at h2; cases h2
          | inr k' => cases k' with
            | inl s' => intro he; exact hne (by rw [Sum.inl.inj he])
            | inr x => intro he; cases he
        | inr x => cases k' with
          | inl k' => intro he; cases he
          | inr k' => cases k' with
            | inl s' => intro he; cases he
            | inr x' => intro he; exact hne (by rw [Sum.inr.inj he])
  refine (hc _ B _ h w (xs.map a.eval ++ cap) _ hst1 (by rw [List.length_append, List.length_append, List.length_map, hal, hcap.1]) (qKd hn hkey hk (fun k g hg => by rw [hg]; rfl) hcc) ?_).mono ?_
  · intro j g u hg hu
    by_cases hj : j < args.length
    · rw [List.getElem?_append_left hj] at hg
      rw [List.getElem?_append_left (by rw [List.length_map]; omega), List.getElem?_map] at hu
      cases hx : xs[j]? with
      | none => rw [hx] at hu; cases hu
      | some x =>
        rw [hx] at hu; cases hu
        have := hall j g x hg hx h a hn
        unfold jJa.dv at this
        rw [hdp g (List.mem_cons_of_mem _ (List.mem_of_getElem? hg))] at this
        exact this
    · rw [List.getElem?_append_right (by omega)] at hg
      rw [List.getElem?_append_right (by rw [List.length_map]; omega), List.length_map, ← hal] at hu
      exact hcap.2 _ g u hg hu
  · rintro e w' ⟨v, h', E', rfl, hl, hst', hpost, hown, hp⟩
    refine hnext v h' w' (fun s => if o.dst = some s then (if own.isSome then E' 9999 else none) else match ofC pre gs s with | some k => E' k | none => L s) hl ?_ ?_ ?_
    · unfold jJa.dv
      rw [hdp res List.mem_cons_self]
      exact hp
    · refine hst'.reind (fun k => match k with | .inl s => (if o.dst = some s then .inl 9999 else match ofC pre gs s with | some k => .inl k | none => .inr (.inl s)) | .inr x => .inr (.inr x)) ?_ ?_
      · intro k e he
        cases k with
        | inr x => exact he
        | inl s =>
          simp only [Sum.elim_inl] at he
          simp only []
          split at he
          · rename_i h1
            rw [if_pos h1]
            split at he
            · exact he
            · cases he
          · rename_i h1
            rw [if_neg h1]
            cases ho : ofC pre gs s with
            | some k => rw [ho] at he; exact he
            | none => rw [ho] at he; simpa [ho] using he
      · intro k k' e e' hk1 hk2 hne
        have k9 : ∀ s, ofC pre gs s ≠ some 9999 := by
          intro s he
          have := (jTt he).2
          rw [qZ0 hcc] at this; cases this
        cases k with
        | inr x => cases k' with
          | inr x' => intro he; exact hne (by rw [Sum.inr.inj (Sum.inr.inj he)])
          | inl s =>
            intro he
            simp only [] at he
            split at he
            · cases he
            · cases ho : ofC pre gs s <;> rw [ho] at he <;> cases he
        | inl s => cases k' with
          | inr x =>
            intro he
            simp only [] at he
            split at he
            · cases he
            · cases ho : ofC pre gs s <;> rw [ho] at he <;> cases he
          | inl s' =>
            have hss : s ≠ s' := fun x => hne (by rw [x])
            intro he
            simp only [] at he
            by_cases h1 : o.dst = some s
            · by_cases h2 : o.dst = some s'
              · rw [h1] at h2; exact hss (Option.some.inj h2)
              · rw [if_pos h1, if_neg h2] at he
                cases ho : ofC pre gs s' with
                | none => rw [ho] at he; cases he
                | some k => rw [ho] at he; exact k9 s' (by rw [ho]; exact congrArg some (Sum.inl.inj he).symm)
            · by_cases h2 : o.dst = some s'
              · rw [if_neg h1, if_pos h2] at he
                cases ho : ofC pre gs s with
                | none => rw [ho] at he; cases he
                | some k => rw [ho] at he; exact k9 s (by rw [ho]; exact congrArg some (Sum.inl.inj he))
              · rw [if_neg h1, if_neg h2] at he
                cases ho : ofC pre gs s with
                | none => cases ho' : ofC pre gs s' with
                  | none => rw [ho, ho'] at he; exact hss (Sum.inl.inj (Sum.inr.inj he))
                  | some k' => rw [ho, ho'] at he; cases he
                | some k => cases ho' : ofC pre gs s' with
                  | none => rw [ho, ho'] at he; cases he
                  | some k' =>
                    rw [ho, ho'] at he
                    have := Sum.inl.inj he
                    subst this
                    have h1 := qJn hcc ho
                    have h2 := qJn hcc ho'
                    rw [h1] at h2; exact hss (Option.some.inj h2)
    · intro s
      unfold full
      rw [jPm, jPm]
      by_cases hds : o.dst = some s
      · have hg : has gs s = false := by rw [hds] at hdg; exact hdg
        rw [jD8 hg]
        simp only []
        cases own with
        | none =>
          simp [qKg, lkU, hds, Nat.beq_refl]
        | some q =>
          obtain ⟨e, he, hq⟩ := hown
          simp only [qKg, hds, lkU, Nat.beq_refl, cond_true, if_pos, Option.isSome_some]
          exact ⟨e, he, by rw [jQe (hdn s hds)]; exact hq⟩
      · have ha : (a.put o.dst v).gt s = a.gt s := jBs hds
        have hrest : ∀ e, lkU (qKg own o.dst) s = some e → False := by
          intro e he
          cases own with
          | none => cases he
          | some q => cases hd' : o.dst with
            | none => rw [hd'] at he; cases he
            | some d =>
              rw [hd'] at he
              simp only [qKg, lkU] at he
              cases hb : Nat.beq d s with
              | true => rw [jWm] at hb; subst hb; exact hds hd'
              | false => rw [hb] at he; cases he
        cases hof : ofC pre gs s with
        | some k =>
          have hfin : ∀ e, lkU (qKg own o.dst) s = some e → False := hrest
          have h0 : lkU (full [] o.dst) s = none := by
            unfold full
            cases hd' : o.dst with
            | none => rfl
            | some d =>
              simp only [List.nil_append, lkU]
              cases hb : Nat.beq d s with
              | true => rw [jWm] at hb; subst hb; exact absurd hd' hds
              | false => rfl
          unfold full at h0
          rw [List.nil_append] at h0
          rcases upd_of (E := E') (L' := fun s => if o.dst = some s then (if own.isSome then E' 9999 else none) else match ofC pre gs s with | some k => E' k | none => L s) hn ha hkey hpost hcc k hof (by simp only [if_neg hds, hof]) with ⟨q, h1, h2⟩ | h1 | ⟨h1, h2⟩
          · rw [h1]; exact h2
          · rw [h1]; trivial
          · rw [h1]
            simp only []
            cases hr : lkU (qKg own o.dst) s with
            | some e => exact (hfin e hr).elim
            | none =>
              simp only []
              rw [h0]
              exact .inr h2
        | none =>
          rw [jD8 (has_of hcc hof)]
          simp only []
          cases hr : lkU (qKg own o.dst) s with
          | some e => exact (hrest e hr).elim
          | none =>
            simp only []
            have : lkU (full [] o.dst) s = none := by
              unfold full
              cases hd' : o.dst with
              | none => rfl
              | some d =>
                simp only [List.nil_append, lkU]
                cases hb : Nat.beq d s with
                | true => rw [jWm] at hb; subst hb; exact absurd hd' hds
                | false => rfl
            unfold full at this
            rw [List.nil_append] at this
            rw [this]
            exact .inl (by simp only [if_neg hds, hof])
end Go.KB
namespace Go.KB
variable {P : Program} {o : Oper} {N : List (Nat × jJa)} {α β : Type}
theorem jMc.split {f : α → Value} {rv : Rep β} {h : H} : ∀ {es : List MapEntry} {l : List (α × β)} {e : MapEntry}, jMc f rv h es l → e ∈ es → ∃ e1 e2 r1 p r2, es = e1 ++ e :: e2 ∧ l = r1 ++ p :: r2 ∧ e.key = f p.1 ∧ rv.val h e.val p.2 ∧ jMc f rv h (e1 ++ e2) (r1 ++ r2)
 | [], _, _, _, he => by cases he
 | x :: es, [], _, hr, _ => hr.elim
 | x :: es, p :: l, e, ⟨hx, hr⟩, he => by
  rcases List.mem_cons.1 he with rfl | he
  ·exact ⟨[], es, [], p, l, rfl, rfl, hx.1, hx.2, hr⟩
  ·obtain ⟨e1, e2, r1, p', r2, h1, h2, h3, h4, h5⟩ := jMc.split hr he
   exact ⟨x :: e1, e2, p :: r1, p', r2, by rw [h1]; rfl, by rw [h2]; rfl, h3, h4, hx, h5⟩
section
variable {ρ : Option Nat} {κ : Type} {B : Base} {h0 : H} {Γ : Ctx} {Λ : Own} {F : κ → Option Ent} {n : Nat} {a : Act} {w : World} {Q : Exit → Act → World → Prop} {sm si : Value} {f : α → Value} {rv : Rep β} {l rem : List (α × β)}
theorem At.toVal {q : jX3} (s g : Nat) (hsg : Nat.beq s g = false) (hAt : At B h0 Γ Λ F n a w) (hs : Λ s = some q) :
  ∃ sv, At B h0 (fun k => bif Nat.beq s k then fIs sv else Γ k) (fun k => bif Nat.beq g k then some (atV q sv) else bif Nat.beq s k then none else Λ k) F n a w := by
 obtain ⟨h, L, hle, hst, hOw, hsat, hsz, hdf⟩ := hAt
 obtain ⟨e, hL, hq⟩ := hOw s q hs
 have hne : s ≠ g := fun x => by rw [jWm.2 x] at hsg; cases hsg
 refine ⟨a.gt s, h, mv L s g, hle, hst.mv s g, ?_, ?_, hsz, hdf⟩
 ·intro k q' hq'
  cases hk : Nat.beq g k with
  | true => simp only [hk, cond_true] at hq'; cases hq'; rw [jWm] at hk; subst hk; exact ⟨e, by simp [mv, hL], hq⟩
  | false =>
   simp only [hk, cond_false] at hq'
   cases hk2 : Nat.beq s k with
   | true => simp only [hk2, cond_true] at hq'; cases hq'
   | false =>
    simp only [hk2, cond_false] at hq'
    have n1 : k ≠ g := fun x => by rw [jWm.2 x.symm] at hk; cases hk
    have n2 : k ≠ s := fun x => by rw [jWm.2 x.symm] at hk2; cases hk2
    obtain ⟨e', h1, h2⟩ := hOw k q' hq'
    exact ⟨e', by simp [mv, n1, n2, h1], h2⟩
 ·intro k
  cases hk : Nat.beq s k with
  | true => simp only [hk, cond_true]; rw [jWm] at hk; subst hk; exact rfl
  | false => simp only [hk, cond_false]; exact hsat k
theorem At.swapE {q : jX3} (g : Nat) {q' : jX3} (hAt : At B h0 Γ Λ F n a w) (hs : Λ g = some q)
  (hq : ∀ v e, q v e → ∃ e', q' v e' ∧ (∀ c ∈ e'.claims, ∃ c0 ∈ e.claims, c0.1 = c.1 ∧ c0.2 ≤ c.2) ∧ ∀ h m, e.ok h m → e'.ok h m) : At B h0 Γ (fun k => bif Nat.beq g k then some q' else Λ k) F n a w := by
 obtain ⟨h, L, hle, hst, hOw, hsat, hsz, hdf⟩ := hAt
 obtain ⟨e, hL, hq1⟩ := hOw g q hs
 obtain ⟨e', hq2, hcl, hok⟩ := hq _ _ hq1
 refine ⟨h, _, hle, hst.swap hL hcl (hok _ _ (hst.own (k := Sum.inl g) hL).2), ?_, hsat, hsz, hdf⟩
 intro k q1 h1
 cases hk : Nat.beq g k with
 | true => simp only [hk, cond_true] at h1; cases h1; rw [jWm] at hk; subst hk; exact ⟨e', jDx, hq2⟩
 | false =>
  simp only [hk, cond_false] at h1
  obtain ⟨e1, h2, h3⟩ := hOw k q1 h1
  have n1 : k ≠ g := fun x => by rw [jWm.2 x.symm] at hk; cases hk
  exact ⟨e1, by simp [set1, n1, h2], h3⟩
end
end Go.KB
namespace Go.KB
variable {P : Program} {o : Oper} {N : List (Nat × jJa)} {α β : Type}
theorem callsG {f : FuncId} {args : List jJa} {pre : List (Nat × jX3)} {post : List Po} {res : jJa} {gs : List Nat} {κ : Type} {B : Base} {h : H} {L : Nat → Option Ent} {F : κ → Option Ent} {w : World} {vs : List Value}
  (hc : jWf P f args pre post none res) (hcc : jR1 pre gs = true) (hst : St B h (Sum.elim L F) w) (hlen : args.length = vs.length) (hpre : jT4 pre (fun k => (toC pre gs k).bind L) (plc fun k => vs.getD k undef))
  (hargs : ∀ (j : Nat) (g : jJa) (u : Value), args[j]? = some g → vs[j]? = some u → g.p h undef u) :
  Calls P f vs.toArray w (fun e w' => ∃ v h' E', e = .returned v ∧ Hle h h' ∧ St B h' (Sum.elim (fun s => match ofC pre gs s with | some k => E' k | none => L s) F) w' ∧ jLx pre post E' (plc fun k => vs.getD k undef) ∧ res.p h' undef v) := by
 have hst1 : St B h (Sum.elim (fun k => (toC pre gs k).bind L) (Sum.elim (fun s => if (ofC pre gs s).isSome then none else L s) F)) w := by
  refine hst.reind (fun k => match k with | .inl k => .inl ((toC pre gs k).getD 0) | .inr (.inl s) => .inl s | .inr (.inr x) => .inr x) ?_ ?_
  ·intro k e he
   cases k with
   | inl k =>
    simp only [Sum.elim_inl] at he
    cases ht : toC pre gs k with
    | none => rw [ht] at he; cases he
    | some g => rw [ht] at he; simpa [ht] using he
   | inr k => cases k with
    | inl s =>
     simp only [Sum.elim_inr, Sum.elim_inl] at he
     split at he
     ·cases he
     ·exact he
    | inr x => exact he
  ·intro k k' e e' hk1 hk2 hne
   have key : ∀ k e, (toC pre gs k).bind L = some e → ∃ g, toC pre gs k = some g ∧ ofC pre gs g = some k := by
    intro k e he
    cases ht : toC pre gs k with
    | none => rw [ht] at he; cases he
    | some g => exact ⟨g, rfl, qYr hcc ht⟩
   have keyS : ∀ s e, (if (ofC pre gs s).isSome then none else L s) = some e → ofC pre gs s = none := by
    intro s e he
    split at he
    ·cases he
    ·rename_i hh; simpa using hh
   cases k with
   | inl k =>
    obtain ⟨g, hg, hg'⟩ := key k e hk1
    cases k' with
    | inl k' =>
     obtain ⟨g2, hg2, hg2'⟩ := key k' e' hk2
     intro he
     simp only [hg, hg2, Option.getD_some] at he
     have := Sum.inl.inj he
     rw [this, hg2'] at hg'; cases hg'; exact hne rfl
    | inr k' => cases k' with
     | inl s =>
      intro he
      simp only [hg, Option.getD_some] at he
      have := Sum.inl.inj he
      have h2 := keyS s e' hk2
      rw [← this, hg'] at h2; cases h2
     | inr x => intro he; cases he
   | inr k => cases k with
    | inl s =>
     have h2 := keyS s e hk1
     cases k' with
     | inl k' =>
      obtain ⟨g2, hg2, hg2'⟩ := key k' e' hk2
      intro he
      simp only [hg2, Option.getD_some] at he
      have := Sum.inl.inj he
      rw [this, hg2'] at h2; cases h2
     | inr k' => cases k' with
      | inl s' => intro he; exact hne (by rw [Sum.inl.inj he])
      | inr x => intro he; cases he
    | inr x => cases k' with
     | inl k' => intro he; cases he
     | inr k' => cases k' with
      | inl s' => intro he; cases he
      | inr x' => intro he; exact hne (by rw [Sum.inr.inj he])
 refine (hc _ B _ h w vs _ hst1 hlen hpre hargs).mono ?_
 rintro e w' ⟨v, h', E', rfl, hl, hst', hpost, _, hp⟩
 refine ⟨v, h', E', rfl, hl, ?_, hpost, hp⟩
 refine hst'.reind (fun k => match k with | .inl s => (match ofC pre gs s with | some k => .inl k | none => .inr (.inl s)) | .inr x => .inr (.inr x)) ?_ ?_
 ·intro k e he
  cases k with
  | inr x => exact he
  | inl s =>
   simp only [Sum.elim_inl] at he
   simp only []
   cases ho : ofC pre gs s with
   | some k => rw [ho] at he; exact he
   | none => rw [ho] at he; simpa [ho] using he
 ·intro k k' e e' hk1 hk2 hne
  cases k with
  | inr x => cases k' with
   | inr x' => intro he; exact hne (by rw [Sum.inr.inj (Sum.inr.inj he)])
   | inl s => intro he; simp only [] at he; cases ho : ofC pre gs s <;> rw [ho] at he <;> cases he
  | inl s => cases k' with
   | inr x => intro he; simp only [] at he; cases ho : ofC pre gs s <;> rw [ho] at he <;> cases he
   | inl s' =>
    have hss : s ≠ s' := fun x => hne (by rw [x])
    intro he
    simp only [] at he
    cases ho : ofC pre gs s with
    | none => cases ho' : ofC pre gs s' with
     | none => rw [ho, ho'] at he; exact hss (Sum.inl.inj (Sum.inr.inj he))
     | some k' => rw [ho, ho'] at he; cases he
    | some k => cases ho' : ofC pre gs s' with
     | none => rw [ho, ho'] at he; cases he
     | some k' =>
      rw [ho, ho'] at he
      have := Sum.inl.inj he
      subst this
      have h1 := qJn hcc ho
      have h2 := qJn hcc ho'
      rw [h1] at h2; exact hss (Option.some.inj h2)
abbrev KE := List (Nat × Ent)
def lkE : KE → Nat → Option Ent
 | [], _ => none
 | (k, e) :: r, s => bif Nat.beq k s then some e else lkE r s
def jUu (l : KE) : Ent where
 claims := l.flatMap (fun p => p.2.claims)
 ok := fun h m => ∀ p ∈ l, p.2.ok h m
 mono := fun hl x p hp => p.2.mono hl (x p hp)
 frame := fun hm x p hp => p.2.frame (fun c hc => hm c (List.mem_flatMap.2 ⟨p, hp, hc⟩)) (x p hp)
def jMh (l : KE) : Prop := l.Pairwise fun p p' => qQt p.2.claims p'.2.claims
def jLk : KE → Bool
 | [] => true
 | (k, _) :: r => !((lkE r k).isSome) && jLk r
theorem jRl : ∀ {l : KE} {k : Nat} {e : Ent}, lkE l k = some e → (k, e) ∈ l := by
 intro l
 induction l with
 | nil => intro k e h; cases h
 | cons x r ih =>
  obtain ⟨k0, e0⟩ := x
  intro k e h
  simp only [lkE] at h
  cases hk : Nat.beq k0 k with
  | true => rw [hk] at h; cases h; rw [jWm] at hk; subst hk; simp
  | false => rw [hk] at h; exact List.mem_cons_of_mem _ (ih h)
theorem jM9 : ∀ {l : KE} {k : Nat} {e : Ent}, (k, e) ∈ l → (lkE l k).isSome = true := by
 intro l
 induction l with
 | nil => intro k e h; cases h
 | cons x r ih =>
  obtain ⟨k0, e0⟩ := x
  intro k e h
  simp only [lkE]
  cases hk : Nat.beq k0 k with
  | true => rfl
  | false =>
   rcases List.mem_cons.1 h with h | h
   ·cases h; rw [Nat.beq_refl] at hk; cases hk
   ·exact ih h
theorem jMh.get {l : KE} (hd : jMh l) : ∀ {k k' : Nat} {e e' : Ent}, lkE l k = some e → lkE l k' = some e' → k ≠ k' → qQt e.claims e'.claims := by
 induction l with
 | nil => intro k k' e e' h; cases h
 | cons x r ih =>
  obtain ⟨k0, e0⟩ := x
  intro k k' e e' h h' hne
  obtain ⟨h1, h2⟩ := List.pairwise_cons.1 hd
  simp only [lkE] at h h'
  cases hk : Nat.beq k0 k with
  | true =>
   rw [hk] at h; cases h
   rw [jWm] at hk; subst hk
   have hk' : Nat.beq k0 k' = false := by rw [Bool.eq_false_iff, Ne, jWm]; exact hne
   rw [hk'] at h'
   exact h1 _ (jRl h')
  | false =>
   rw [hk] at h
   cases hk' : Nat.beq k0 k' with
   | true =>
    rw [hk'] at h'; cases h'
    have := h1 _ (jRl h)
    exact fun c hc c' hc' he => this c' hc' c hc he.symm
   | false => rw [hk'] at h'; exact ih h2 h h' hne
section
variable {κ : Type} {B : Base} {h : H} {L : Nat → Option Ent} {F : κ → Option Ent} {w : World}
theorem jN0 (hst : St B h (Sum.elim L F) w) : ∀ {l : KE}, (∀ p ∈ l, L p.1 = some p.2) → jLk l = true → jMh l := by
 intro l
 induction l with
 | nil => intro _ _; exact List.Pairwise.nil
 | cons x r ih =>
  obtain ⟨k, e⟩ := x
  intro hL hn
  simp only [jLk, Bool.and_eq_true, Bool.not_eq_true'] at hn
  refine List.pairwise_cons.2 ⟨fun p hp => ?_, ih (fun p hp => hL p (List.mem_cons_of_mem _ hp)) hn.2⟩
  have hne : k ≠ p.1 := fun e' => by
   have := jM9 (l := r) (k := p.1) (e := p.2) hp
   rw [← e', hn.1] at this; cases this
  exact fun c hc c' hc' => hst.disj (k := .inl k) (k' := .inl p.1) (hL _ List.mem_cons_self) (hL _ (List.mem_cons_of_mem _ hp)) (fun he => hne (Sum.inl.inj he)) c hc c' hc'
theorem St.jUu (hst : St B h (Sum.elim L F) w) {l : KE} (g : Nat) (hL : ∀ p ∈ l, L p.1 = some p.2) : St B h (Sum.elim (fun k => if k = g then some (jUu l) else if (lkE l k).isSome then none else L k) F) w := by
  have key : ∀ k e, (if k = g then some (KB.jUu l) else if (lkE l k).isSome then none else L k) = some e → (k = g ∧ e = KB.jUu l) ∨ (k ≠ g ∧ (lkE l k) = none ∧ L k = some e) := by
    intro k e he
    split at he
    · rename_i h1; cases he; exact .inl ⟨h1, rfl⟩
    · rename_i h1
      split at he
      · cases he
      · rename_i h2
        refine .inr ⟨h1, ?_, he⟩
        cases hl : lkE l k with
        | none => rfl
        | some x => rw [hl] at h2; exact absurd rfl h2
  refine ⟨hst.low, hst.base, fun x => hst.ext x, ?_, ?_, hst.mark, fun x i y => hst.nf x i y⟩
  · intro k e he
    cases k with
    | inr x => exact hst.own (k := .inr x) he
    | inl k =>
      rcases key k e he with ⟨rfl, rfl⟩ | ⟨_, _, hk⟩
      · refine ⟨fun c hc => ?_, fun p hp => (hst.own (k := .inl p.1) (hL p hp)).2⟩
        obtain ⟨p, hp, hc⟩ := List.mem_flatMap.1 hc
        exact (hst.own (k := .inl p.1) (hL p hp)).1 c hc
      · exact hst.own (k := .inl k) hk
  · have one : ∀ (x : Nat ⊕ κ) e', Sum.elim (fun k => if k = g then some (KB.jUu l) else if (lkE l k).isSome then none else L k) F x = some e' → x ≠ .inl g → ∀ c ∈ (KB.jUu l).claims, ∀ c' ∈ e'.claims, c.1 ≠ c'.1 := by
      intro x e' he hx c hc c' hc'
      obtain ⟨p, hp, hc⟩ := List.mem_flatMap.1 hc
      cases x with
      | inr y => exact hst.disj (k := .inl p.1) (k' := .inr y) (hL p hp) he (fun h => by cases h) c hc c' hc'
      | inl k =>
        rcases key k e' he with ⟨rfl, _⟩ | ⟨_, h1, hk⟩
        · exact absurd rfl hx
        · have hne : p.1 ≠ k := fun e' => by have := jM9 (l := l) (k := p.1) (e := p.2) hp; rw [e', h1] at this; cases this
          exact hst.disj (k := .inl p.1) (k' := .inl k) (hL p hp) hk (fun h => hne (Sum.inl.inj h)) c hc c' hc'
    intro k k' e e' he he' hne c hc c' hc'
    by_cases h1 : k = .inl g
    · subst h1
      have : e = KB.jUu l := by
        rcases key g e he with ⟨_, h⟩ | ⟨h, _⟩
        · exact h
        · exact absurd rfl h
      subst this
      exact one k' e' he' (fun h => hne h.symm) c hc c' hc'
    · by_cases h2 : k' = .inl g
      · subst h2
        have : e' = KB.jUu l := by
          rcases key g e' he' with ⟨_, h⟩ | ⟨h, _⟩
          · exact h
          · exact absurd rfl h
        subst this
        exact fun h => one k e he h1 c' hc' c hc h.symm
      · have tr : ∀ (x : Nat ⊕ κ) e', Sum.elim (fun k => if k = g then some (KB.jUu l) else if (lkE l k).isSome then none else L k) F x = some e' → x ≠ .inl g → Sum.elim L F x = some e' := by
          intro x e' he hx
          cases x with
          | inr y => exact he
          | inl k =>
            rcases key k e' he with ⟨rfl, _⟩ | ⟨_, _, hk⟩
            · exact absurd rfl hx
            · exact hk
        exact hst.disj (tr k e he h1) (tr k' e' he' h2) hne c hc c' hc'
theorem St.splitK (hst : St B h (Sum.elim L F) w) {l : KE} {g : Nat} (hg : L g = some (KB.jUu l)) (hd : jMh l) : St B h (Sum.elim (fun k => match lkE l k with | some e => some e | none => if k = g then none else L k) F) w := by
 obtain ⟨hcl, hok⟩ := hst.own (k := .inl g) hg
 have key : ∀ k e, (match lkE l k with | some e => some e | none => if k = g then none else L k) = some e → lkE l k = some e ∨ (lkE l k = none ∧ k ≠ g ∧ L k = some e) := by
  intro k e he
  cases hl : lkE l k with
  | some e0 => rw [hl] at he; cases he; exact .inl rfl
  | none =>
   rw [hl] at he
   simp only [] at he
   split at he
   ·cases he
   ·rename_i h1; exact .inr ⟨rfl, h1, he⟩
 have cl : ∀ {k e c}, lkE l k = some e → c ∈ e.claims → c ∈ (KB.jUu l).claims := fun hk hc => List.mem_flatMap.2 ⟨_, jRl hk, hc⟩
 refine ⟨hst.low, hst.base, fun x => hst.ext x, ?_, ?_, hst.mark, fun x i y => hst.nf x i y⟩
 ·intro k e he
  cases k with
  | inr x => exact hst.own (k := .inr x) he
  | inl k =>
   rcases key k e he with hk | ⟨_, _, hk⟩
   ·exact ⟨fun c hc => hcl c (cl hk hc), hok _ (jRl hk)⟩
   ·exact hst.own (k := .inl k) hk
 ·intro k k' e e' he he' hne c hc c' hc'
  have out : ∀ (x : Nat ⊕ κ) e', Sum.elim (fun k => match lkE l k with | some e => some e | none => if k = g then none else L k) F x = some e' → (∃ k, x = .inl k ∧ lkE l k = some e') ∨ (x ≠ .inl g ∧ Sum.elim L F x = some e') := by
   intro x e' he
   cases x with
   | inr y => exact .inr ⟨fun h => (by cases h), he⟩
   | inl k =>
    rcases key k e' he with hk | ⟨_, h1, hk⟩
    ·exact .inl ⟨k, rfl, hk⟩
    ·exact .inr ⟨fun h => h1 (Sum.inl.inj h), hk⟩
  rcases out k e he with ⟨k1, rfl, h1⟩ | ⟨h1, h2⟩
  ·rcases out k' e' he' with ⟨k2, rfl, h3⟩ | ⟨h3, h4⟩
   ·exact hd.get h1 h3 (fun h => hne (by rw [h])) c hc c' hc'
   ·exact hst.disj (k := .inl g) hg h4 (fun h => h3 h.symm) c (cl h1 hc) c' hc'
  ·rcases out k' e' he' with ⟨k2, rfl, h3⟩ | ⟨h3, h4⟩
   ·exact hst.disj h2 (k' := .inl g) hg h1 c hc c' (cl h3 hc')
   ·exact hst.disj h2 h4 hne c hc c' hc'
end
def YlOk (P : Program) {X ι : Type} (A : ι → List jJa) (YE : X → Ent → Prop) (Y : X → ι → Option (X × Bool)) (h : H) (l : Nat) : Prop :=
 ∀ (i : ι) (x x' : X) (b : Bool), Y x i = some (x', b) → ∀ (κ : Type) (B : Base) (L : κ → Option Ent) (h' : H) (w : World) (vs : List Value) (e : Ent), Hle h h' → St B h' (Sum.elim (fun _ : Unit => some e) L) w → YE x e → (A i).length = vs.length →
  (∀ (j : Nat) (g : jJa) (v : Value), (A i)[j]? = some g → vs[j]? = some v → g.p h' undef v) →
  YieldAt (rdF none) 0 P l vs.toArray w (fun en w' => ∃ h'' e', en = .returned (.bool b) ∧ Hle h' h'' ∧ St B h'' (Sum.elim (fun _ : Unit => some e') L) w' ∧ YE x' e')
def fYl (P : Program) {X ι : Type} (A : ι → List jJa) (YE : X → Ent → Prop) (Y : X → ι → Option (X × Bool)) : jJa :=
 ⟨none, fun h _ v => ∃ l, v = .func (.yield l) #[] #[] ∧ YlOk P A YE Y h l, fun hl ⟨l, e, k⟩ => ⟨l, e, fun i x x' b hY κ B L h' w vs en hl' => k i x x' b hY κ B L h' w vs en (hl.trans hl')⟩⟩
def yE {X : Type} (YE : X → Ent → Prop) (x : X) : jX3 := fun _ e => YE x e
theorem Gh.yE {X : Type} {YE : X → Ent → Prop} {x : X} : Gh (yE YE x) := fun _ _ _ h => h
theorem jNh {X ι : Type} {A : ι → List jJa} {YE : X → Ent → Prop} {Y : X → ι → Option (X × Bool)} (i : ι) {x x' : X} {b : Bool} {g : Nat} {z : Operand} {xs : Array Operand} {ts : Array TypeId} (hY : Y x i = some (x', b)) (hd : jKb (A i) = true)
  (ho : o.op = .call { callee := .value z, args := xs, argTypes := ts }) (hz : jJ9 N z (fYl P A YE Y)) (hargs : jDu N (A i) xs.toList) : jXg P o N [(g, yE YE x)] (fV Rep.bool b) [(g, some (yE YE x'))] := by
 intro κ B F L h a w hst hn hk hdn next Q hnext _
 obtain ⟨e, hL, hq⟩ := hk.1
 have hL : L g = some e := hL
 obtain ⟨l, hv, hyl⟩ := hz h a hn
 have hdp := jY7 hd
 obtain ⟨hlen, hall⟩ := hargs.spec
 have hst1 : St B h (Sum.elim (fun _ : Unit => some e) (Sum.elim (fun k => if k = g then none else L k) F)) w := by
  have := (jNa hL).symm ▸ hst
  exact St.out this
 obtain ⟨fn, tmps, assign, body, hy, hR⟩ := hyl i x x' b hY _ B _ h w (xs.toList.map a.eval) e (Hle.refl h) hst1 hq (by rw [List.length_map]; exact hlen) (by
  intro j gg v hg hv
  rw [List.getElem?_map] at hv
  cases hx : xs.toList[j]? with
  | none => rw [hx] at hv; cases hv
  | some x =>
   rw [hx] at hv; cases hv
   have := hall j gg x hg hx h a hn
   unfold jJa.dv at this
   rw [hdp gg (List.mem_of_getElem? hg)] at this
   exact this)
 have e1 : (xs.toList.map a.eval).toArray = xs.map a.eval := by apply Array.ext'; simp
 rw [e1] at hy
 have hrun : (execOp a.eval o).run P w = .ok (.round l fn tmps assign body) w := by
  simp only [execOp, ho, Sem.run_bind]
  simp [resolve, hv, Deferred.ofValue, invoke, hy]
 unfold Oper.wpK
 rw [hrun]
 show RoundIn (rdF none) 0 P l fn tmps assign body w _
 refine hR.mono ?_
 rintro en w' ⟨h', e', rfl, hl, hst', hq'⟩
 refine hnext (.bool b) h' w' _ hl (jX2.2 rfl) hst'.into ?_
 exact jW5 hq'
def jVy (l : Nat) (r : Loop) : Ent where
 claims := [(l, 0)]
 ok := fun _ m => m l = some (.loop r)
 mono := fun _ x => x
 frame := fun hm x => by rw [hm (l, 0) (by simp)]; exact x
def jWc (D : Nat) : Ent where
 claims := [(D, 0)]
 ok := fun _ m => m D = some (.deferred (some []))
 mono := fun _ x => x
 frame := fun hm x => by rw [hm (D, 0) (by simp)]; exact x
def jMr (l : Nat) (r : Loop) : jX3 := fun _ e => e = jVy l r
def jF3 (D : Nat) : jX3 := fun _ e => e = jWc D
def jHn (r : Loop) : Loop := { r with state := .busy }
def mark (D : Nat) : Deferred := { target := .collected D, args := #[] }
def HasQ (Λ : Own) : List (Nat × jX3) → Prop
 | [] => True
 | (k, q) :: r => Λ k = some q ∧ HasQ Λ r
def GhL : List (Nat × jX3) → Prop
 | [] => True
 | (_, q) :: r => Gh q ∧ GhL r
def xOf (js : List Exit) : Option Nat → Exit
 | none => .normal
 | some k => js.getD k .normal
def cdOf : Exit → Option Code
 | .ret => some .ret
 | .exit id => some (.exit id)
 | _ => none
def qWc : List Exit → Bool
 | [] => true
 | e :: r => (cdOf e).isSome && qWc r
def yl {S ι : Type} (g : S → ι → Option (S × Option Nat)) (m : Nat) : S × Option Nat → ι → Option ((S × Option Nat) × Bool) := fun x i => match x.2 with
 | none => (match g x.1 i with
  | some (s', j) => (match j with | none => some ((s', none), true) | some k => bif Nat.blt k m then some ((s', some k), false) else none)
  | none => none)
 | some _ => none
def RoundP (n : Nat) {κ : Type} (B : Base) (h0 : H) (F : κ → Option Ent) (l : Nat) (r : Loop) (D : Nat) (Qs : List (Nat × jX3)) (js : List Exit) (j : Option Nat) : Exit → Act → World → Prop :=
 fun e a w => xOf js j = e ∧ ∃ Γ Λ, At B h0 Γ Λ F n a w ∧ Λ 4998 = some (jMr l (jHn r)) ∧ Λ 4999 = some (jF3 D) ∧ HasQ Λ Qs
section
variable {κ : Type} {B : Base} {h h0 : H} {L : Nat → Option Ent} {Γ : Ctx} {Λ : Own} {F : κ → Option Ent} {n : Nat} {a : Act} {w : World} {l D : Nat} {r : Loop}
theorem jT0 (hst : St B h (Sum.elim L F) w) {k : Nat} (hL : L k = some (jVy l r)) (r' : Loop) : w.heap[l]? = some (.loop r) ∧ St B h (Sum.elim (set1 L k (jVy l r')) F) (w.putObj l (.loop r')) := by
 obtain ⟨hcl, hok⟩ := hst.own (k := Sum.inl k) hL
 have hl : w.heap[l]? = some (.loop r) := hok
 have hlt := (Array.getElem?_eq_some_iff.1 hl).1
 refine ⟨hl, ?_⟩
 have hno := fun o' => (hcl (l, 0) (by simp [jVy])).2.2 o' (Nat.zero_le _)
 refine hst.step (hnf := hst.nf_own (k := Sum.inl k) hL (by simp [jVy])) (Sum.inl k) (fun i => i = l) (fun i hi _ => ⟨_, hL, (l, 0), by simp [jVy], hi.symm⟩) (by simp) rfl rfl rfl (fun i _ hi => World.putObj_heap_other hi) (Hle.refl h) (fun _ _ _ _ => rfl) ?_ jUn ?_
 ·rintro i o' u (rfl | hi) hu
  ·rw [hno o'] at hu; cases hu
  ·rw [hst.fresh hi] at hu; cases hu
 ·intro e' he
  rw [jUt he]
  refine ⟨fun c hc => ?_, World.putObj_heap_same hlt⟩
  simp only [jVy, List.mem_singleton] at hc
  subst hc
  exact ⟨.inr ⟨_, hL, (l, 0), by simp [jVy], rfl⟩, by simpa using hlt, fun o' _ => hno o'⟩
theorem jN8 {body : Code} {K : Exit → Act → World → Prop} (hAt : At B h0 Γ Λ F n a w) (h8 : Λ 4998 = some (jMr l r)) (hr : r.state = .ready)
  (hk : ∀ w, At B h0 Γ (fun k => bif Nat.beq 4998 k then some (jMr l (jHn r)) else Λ k) F n a w → body.wpK (some l) P K a w) : ∃ w₂, (Instr.beginRound l).run P w = .ok () w₂ ∧ body.wpK (some l) P K a w₂ := by
 obtain ⟨h, L, hle, hst, hOw, hsat, hsz, hdf⟩ := hAt
 obtain ⟨e, hL, rfl⟩ := hOw 4998 _ h8
 obtain ⟨hl, hst'⟩ := jT0 hst hL (jHn r)
 refine ⟨_, run_beginRound hl hr, hk _ ⟨h, _, hle, hst', ?_, hsat, hsz, hdf⟩⟩
 intro k q hq
 cases hb : Nat.beq 4998 k with
 | true => simp only [hb, cond_true] at hq; cases hq; rw [jWm] at hb; subst hb; exact ⟨_, jDx, rfl⟩
 | false =>
  simp only [hb, cond_false] at hq
  have n1 : k ≠ 4998 := fun x => by rw [jWm.2 x.symm] at hb; cases hb
  obtain ⟨e1, h2, h3⟩ := hOw k q hq
  exact ⟨e1, by simp [set1, n1, h2], h3⟩
theorem retD {fn : Func} {R : Ending → World → Prop} {D : Nat} (hAt : At (B.d (mark D)) h0 Γ Λ F n a w) (h9 : Λ 4999 = some (jF3 D))
  (hk : ∀ (a : Act) (w : World), At B h0 Γ (fun k => bif Nat.beq 4999 k then none else Λ k) F n a w → B.df = [] → jRr P fn R .ret a w) : B.df = [] → jRr P fn R .ret a w := by
 intro hB
 obtain ⟨h, L, hle, hst, hOw, hsat, hsz, hdf⟩ := hAt
 obtain ⟨e, hL, rfl⟩ := hOw 4999 _ h9
 obtain ⟨hcl, hok⟩ := hst.own (k := Sum.inl 4999) hL
 have hD : w.heap[D]? = some (.deferred (some [])) := hok
 have hno := fun o' => (hcl (D, 0) (by simp [jWc])).2.2 o' (Nat.zero_le _)
 have hst' : St B h (Sum.elim (fun k => if k = 4999 then none else L k) F) (w.putObj D (.deferred none)) := by
  refine hst.ofD.step (hnf := hst.ofD.nf_own (k := Sum.inl 4999) hL (by simp [jWc])) (Sum.inl 4999) (fun i => i = D) (fun i hi _ => ⟨_, hL, (D, 0), by simp [jWc], hi.symm⟩) (by simp) rfl rfl rfl (fun i _ hi => World.putObj_heap_other hi) (Hle.refl h) (fun _ _ _ _ => rfl) ?_ ?_ ?_
  ·rintro i o' u (rfl | hi) hu
   ·rw [hno o'] at hu; cases hu
   ·rw [hst.fresh hi] at hu; cases hu
  ·intro k' e' hne he
   cases k' with
   | inr x => exact he
   | inl k =>
    have : k ≠ 4999 := fun x => hne (by rw [x])
    simpa [this] using he
  ·intro e' he; simp at he
 have hdf' : a.defers = [mark D] := by rw [hdf]; show mark D :: B.df = _; rw [hB]
 have := hk { a with defers := [] } (w.putObj D (.deferred none)) ⟨h, _, hle, hst', ?_, fun s => hsat s, hsz, hB.symm⟩ hB
 ·rcases this with ⟨_, v, h1, h2⟩ | ⟨D', w', h1, _⟩ | ⟨d', h1, _⟩
  ·exact .inr (.inl ⟨D, _, hdf', run_takeDeferred hD, v, h1, h2⟩)
  ·cases h1
  ·cases h1
 ·intro k q hq
  cases hb : Nat.beq 4999 k with
  | true => simp only [hb, cond_true] at hq; cases hq
  | false =>
   simp only [hb, cond_false] at hq
   have n1 : k ≠ 4999 := fun x => by rw [jWm.2 x.symm] at hb; cases hb
   obtain ⟨e1, h2, h3⟩ := hOw k q hq
   exact ⟨e1, by simp [n1, h2], h3⟩
end
end Go.KB
namespace Go.KB
variable {P : Program}
def jUk : List Nat → Bool
 | [] => true
 | k :: r => !(has r k) && jUk r
def QOk : List (Nat × jX3) → KE → Prop
 | (k, q) :: r, (k', e) :: es => k' = k ∧ q undef e ∧ QOk r es
 | [], [] => True
 | _, _ => False
theorem jAy : ∀ {l : KE} {k : Nat}, has (l.map (·.1)) k = (lkE l k).isSome := by
 intro l
 induction l with
 | nil => intro k; rfl
 | cons x r ih =>
  obtain ⟨k0, e⟩ := x
  intro k
  simp only [List.map_cons, has, lkE]
  cases Nat.beq k0 k with
  | true => rfl
  | false => simpa using ih
theorem qXw : ∀ {l : KE}, jUk (l.map (·.1)) = true → jLk l = true := by
 intro l
 induction l with
 | nil => intro _; rfl
 | cons x r ih =>
  obtain ⟨k0, e⟩ := x
  intro h
  simp only [List.map_cons, jUk, jAy, Bool.and_eq_true] at h
  simp only [jLk, Bool.and_eq_true]
  exact ⟨h.1, ih h.2⟩
theorem jS3 {Λ : Own} {L : Nat → Option Ent} {a : Act} (hOw : jC9 Λ L a) : ∀ {Qs : List (Nat × jX3)}, HasQ Λ Qs → GhL Qs → ∃ kes : KE, kes.map (·.1) = Qs.map (·.1) ∧ QOk Qs kes ∧ ∀ p ∈ kes, L p.1 = some p.2 := by
 intro Qs
 induction Qs with
 | nil => intro _ _; exact ⟨[], rfl, trivial, fun p hp => by cases hp⟩
 | cons x r ih =>
  obtain ⟨k, q⟩ := x
  intro h hg
  obtain ⟨e, hL, hq⟩ := hOw k q h.1
  obtain ⟨kes, h1, h2, h3⟩ := ih h.2 hg.2
  refine ⟨(k, e) :: kes, by simp [h1], ⟨rfl, hg.1 _ _ _ hq, h2⟩, fun p hp => ?_⟩
  rcases List.mem_cons.1 hp with rfl | hp
  ·exact hL
  ·exact h3 p hp
theorem qJw : ∀ {Qs : List (Nat × jX3)} {kes : KE}, QOk Qs kes → kes.map (·.1) = Qs.map (·.1) := by
 intro Qs
 induction Qs with
 | nil => intro kes h; cases kes with
  | nil => rfl
  | cons _ _ => exact h.elim
 | cons x r ih =>
  obtain ⟨k, q⟩ := x
  intro kes h
  cases kes with
  | nil => exact h.elim
  | cons y es => obtain ⟨k', e⟩ := y; obtain ⟨rfl, _, h3⟩ := h; simp [ih h3]
theorem qZw : ∀ {Qs : List (Nat × jX3)} {kes : KE}, QOk Qs kes → GhL Qs → ∀ {k q}, mkO Qs k = some q → ∃ e, lkE kes k = some e ∧ ∀ v, q v e := by
 intro Qs
 induction Qs with
 | nil => intro kes _ _ k q h; cases h
 | cons x r ih =>
  obtain ⟨k0, q0⟩ := x
  intro kes h hg k q hq
  cases kes with
  | nil => exact h.elim
  | cons y es =>
   obtain ⟨k', e⟩ := y
   obtain ⟨rfl, h2, h3⟩ := h
   simp only [mkO, lkO] at hq
   simp only [lkE]
   cases hb : Nat.beq k' k with
   | true => rw [hb] at hq; cases hq; exact ⟨e, rfl, fun v => hg.1 _ _ _ h2⟩
   | false => rw [hb] at hq; exact ih h3 hg.2 hq
def qJ7 : List (Nat × jX3) → List Nat → List Po → List (Nat × jX3)
 | _ :: r, g :: gs, .to q :: ps => (g, q) :: qJ7 r gs ps
 | (_, q) :: r, g :: gs, .keep :: ps => (g, q) :: qJ7 r gs ps
 | _ :: r, _ :: gs, .gone :: ps => qJ7 r gs ps
 | _, _, _ => []
theorem qW8 {E : Nat → Option Ent} {g : Nat → Value} : ∀ {pre : List (Nat × jX3)} {post : List Po} {gs : List Nat}, jLx pre post E (plc g) → jUg [] [] pre post gs → jR1 pre gs = true → ∀ {k q}, mkO (qJ7 pre gs post) k = some q →
  ∃ e k', ofC pre gs k = some k' ∧ E k' = some e ∧ ∀ v, q v e := by
 intro pre
 induction pre with
 | nil => intro post gs _ hk _ k q h; cases post <;> cases gs <;> first | exact hk.elim | cases h
 | cons x r ih =>
  obtain ⟨k0, q0⟩ := x
  intro post gs hp hk hc k q hq
  cases post with
  | nil => cases gs <;> exact hk.elim
  | cons p ps => cases gs with
   | nil => exact hk.elim
   | cons g0 gs =>
    obtain ⟨h1, h2⟩ := hk
    simp only [jR1, Bool.and_eq_true, Bool.not_eq_true'] at hc
    have tail : mkO (qJ7 r gs ps) k = some q → ∃ e k', ofC ((k0, q0) :: r) (g0 :: gs) k = some k' ∧ E k' = some e ∧ ∀ v, q v e := fun hq => by
     obtain ⟨e, k', h3, h4, h5⟩ := ih hp.2 h2 hc.2 hq
     have h6 := (jTt h3).1
     have : Nat.beq g0 k = false := by
      rw [Bool.eq_false_iff, Ne, jWm]; intro e; subst e; rw [h6] at hc; exact absurd hc.1.1.1 (by simp)
     exact ⟨e, k', by simp only [ofC, this, cond_false]; exact h3, h4, h5⟩
    have one : ∀ q' : jX3, Gh q' → (∃ e, E k0 = some e ∧ q' (plc g k0) e) → mkO ((g0, q') :: qJ7 r gs ps) k = some q → ∃ e k', ofC ((k0, q0) :: r) (g0 :: gs) k = some k' ∧ E k' = some e ∧ ∀ v, q v e := by
     rintro q' hgh ⟨e, he, hqe⟩ hq
     simp only [mkO, lkO] at hq
     cases hb : Nat.beq g0 k with
     | false => rw [hb] at hq; exact tail hq
     | true =>
      rw [hb] at hq; cases hq
      exact ⟨e, k0, by simp only [ofC, hb, cond_true], he, fun v => hgh _ _ _ hqe⟩
    have hgh : Gh q0 ∧ ∀ q', p = .to q' → Gh q' := by
     rcases h1 with ⟨_, hg, hg'⟩ | ⟨_, x, hx, _⟩
     ·exact ⟨hg, hg'⟩
     ·simp at hx
    cases p with
    | gone => exact tail hq
    | to q' => exact one q' (hgh.2 q' rfl) hp.1 hq
    | keep => exact one q0 hgh.1 hp.1 hq
theorem qJ8 {l1 l2 : List (Nat × jX3)} {k : Nat} : mkO (l1 ++ l2) k = (match mkO l1 k with | some q => some q | none => mkO l2 k) := by
 induction l1 with
 | nil => rfl
 | cons x r ih =>
  obtain ⟨k0, q⟩ := x
  simp only [mkO, List.cons_append, lkO] at ih ⊢
  cases Nat.beq k0 k with
  | true => rfl
  | false => exact ih
theorem qZy : ∀ {l : List (Nat × jX3)} {k : Nat} {q : jX3}, mkO l k = some q → has (l.map (·.1)) k = true := by
 intro l
 induction l with
 | nil => intro k q h; cases h
 | cons x r ih =>
  obtain ⟨k0, q0⟩ := x
  intro k q h
  simp only [mkO, lkO] at h
  simp only [List.map_cons, has, Bool.or_eq_true]
  cases hb : Nat.beq k0 k with
  | true => exact .inl rfl
  | false => rw [hb] at h; exact .inr (ih h)
theorem qVc : ∀ {pre : List (Nat × jX3)} {gs : List Nat} {ps : List Po} {k : Nat}, has ((qJ7 pre gs ps).map (·.1)) k = true → has gs k = true := by
 intro pre
 induction pre with
 | nil => intro gs ps k h; cases gs <;> cases ps <;> cases h
 | cons x r ih =>
  obtain ⟨k0, q0⟩ := x
  intro gs ps k h
  cases gs with
  | nil => cases ps <;> cases h
  | cons g gs => cases ps with
   | nil => cases h
   | cons p ps =>
    have two : ∀ q : jX3, has (((g, q) :: qJ7 r gs ps).map (·.1)) k = true → has (g :: gs) k = true := by
     intro q h
     simp only [List.map_cons, has, Bool.or_eq_true] at h
     simp only [has, Bool.or_eq_true]
     exact h.imp id ih
    cases p with
    | gone => simp only [qJ7] at h; simp only [has, ih h, Bool.or_true]
    | to q => exact two q h
    | keep => exact two q0 h
def qZn : List Nat → List jJa → List (Nat × jJa)
 | p :: ps, f :: fs => (p, f) :: qZn ps fs
 | _, _ => []
def qUr : List (Nat × jJa) → Bool
 | [] => true
 | (_, f) :: r => f.dep.isNone && qUr r
theorem jNg : ∀ {l : List (Nat × jJa)} {s : Nat}, qUr l = true → (mkG l s).dep = none := by
 intro l
 induction l with
 | nil => intro s _; rfl
 | cons x r ih =>
  obtain ⟨k, f⟩ := x
  intro s h
  simp only [qUr, Bool.and_eq_true] at h
  simp only [mkG, lkF]
  cases hb : Nat.beq k s with
  | true =>
   rw [cond_true]
   cases hd : f.dep with
   | none => rfl
   | some d => rw [hd] at h; cases h.1
  | false => exact ih h.2
theorem qVz {h : H} {Γl : List (Nat × jJa)} : ∀ {ps : List Nat} {A : List jJa} {vs : List Value} (tmps : Array Value), jUk ps = true → (∀ p ∈ ps, p < tmps.size) → A.length = ps.length → vs.length = ps.length → jKb A = true → (∀ s, (mkG Γl s).p h undef (tmps.getD s undef)) → (∀ (j : Nat) (g : jJa) (v : Value), A[j]? = some g → vs[j]? = some v → g.p h undef v) →
  ∀ s, (mkG (qZn ps A ++ Γl) s).p h undef (((ps.zip vs).foldl (fun t (p : Nat × Value) => t.setIfInBounds p.1 p.2) tmps).getD s undef) := by
 intro ps
 induction ps with
 | nil => intro A vs tmps _ _ hA _ _ hG _ s; cases A with
  | nil => exact hG s
  | cons _ _ => simp at hA
 | cons p ps ih =>
  intro A vs tmps hn hlt hA hv hd hG hargs s
  cases A with
  | nil => simp at hA
  | cons f A => cases vs with
   | nil => simp at hv
   | cons v vs =>
    simp only [jUk, Bool.and_eq_true, Bool.not_eq_true'] at hn
    simp only [jKb, Bool.and_eq_true] at hd
    -- the others first: p keeps its value
    have keep : ∀ (ps : List Nat) (vs : List Value) (t : Array Value), has ps p = false → ((ps.zip vs).foldl (fun t (p : Nat × Value) => t.setIfInBounds p.1 p.2) t).getD p undef = t.getD p undef := by
     intro ps
     induction ps with
     | nil => intro vs t _; rfl
     | cons p' ps ih' =>
      intro vs t hh
      cases vs with
      | nil => rfl
      | cons v' vs =>
       simp only [has, Bool.or_eq_false_iff] at hh
       simp only [List.zip_cons_cons, List.foldl_cons]
       rw [ih' vs _ hh.2]
       have : p' ≠ p := fun e => by rw [jWm.2 e] at hh; cases hh.1
       simp [Array.getD_eq_getD_getElem?, Array.getElem?_setIfInBounds_ne this]
    simp only [List.zip_cons_cons, List.foldl_cons, qZn, List.cons_append]
    show (bif Nat.beq p s then f else mkG (qZn ps A ++ Γl) s).p h undef _
    cases hb : Nat.beq p s with
    | true =>
     rw [jWm] at hb; subst hb
     rw [keep ps vs _ hn.1]
     have hp := hlt p (by simp)
     have : (tmps.setIfInBounds p v).getD p undef = v := by simp [Array.getD_eq_getD_getElem?, hp]
     rw [this]
     exact hargs 0 f v rfl rfl
    | false =>
     rw [cond_false]
     -- facts on p itself are not asked for any more
     have hps : p ≠ s := fun e => by rw [jWm.2 e] at hb; cases hb
     have key : ∀ (ps : List Nat) (A : List jJa) (vs : List Value) (t t' : Array Value), t.size = t'.size → (∀ k, k ≠ p → t.getD k undef = t'.getD k undef) → ∀ k, k ≠ p → ((ps.zip vs).foldl (fun t (q : Nat × Value) => t.setIfInBounds q.1 q.2) t).getD k undef = ((ps.zip vs).foldl (fun t (q : Nat × Value) => t.setIfInBounds q.1 q.2) t').getD k undef := by
      intro ps
      induction ps with
      | nil => intro _ vs t t' _ h k hk; exact h k hk
      | cons p' ps ih' =>
       intro A vs t t' hs h k hk
       cases vs with
       | nil => exact h k hk
       | cons v' vs =>
        simp only [List.zip_cons_cons, List.foldl_cons]
        refine ih' A vs _ _ (by simp [hs]) (fun m hm => ?_) k hk
        by_cases hpm : p' = m
        ·subst hpm
         by_cases hlt : p' < t.size
         ·simp [Array.getD_eq_getD_getElem?, hlt, hs ▸ hlt]
         ·simp [Array.getD_eq_getD_getElem?, hlt, show ¬p' < t'.size by omega]
        ·have := h m hm
         simpa [Array.getD_eq_getD_getElem?, Array.getElem?_setIfInBounds_ne hpm] using this
     rw [key ps A vs (tmps.setIfInBounds p v) tmps (by simp) (fun k hk => by simp [Array.getD_eq_getD_getElem?, Array.getElem?_setIfInBounds_ne (Ne.symm hk)]) s (Ne.symm hps)]
     exact ih tmps hn.2 (fun q hq => hlt q (List.mem_cons_of_mem _ hq)) (by simpa using hA) (by simpa using hv) hd.2 hG (fun j g u hg hu => hargs (j + 1) g u hg hu) s
theorem qQn {ps : List Nat} : ∀ {vs : List Value} {t : Array Value}, ((ps.zip vs).foldl (fun t (p : Nat × Value) => t.setIfInBounds p.1 p.2) t).size = t.size := by
 induction ps with
 | nil => intro vs t; rfl
 | cons p ps ih => intro vs t; cases vs with
  | nil => rfl
  | cons v vs => simp only [List.zip_cons_cons, List.foldl_cons]; rw [ih]; simp
theorem jSl : ∀ {js : List Exit} {k : Nat}, qWc js = true → k < js.length → ∃ c, cdOf (js.getD k .normal) = some c := by
 intro js
 induction js with
 | nil => intro k _ h; cases h
 | cons e r ih =>
  intro k h hk
  simp only [qWc, Bool.and_eq_true] at h
  cases k with
  | zero => exact Option.isSome_iff_exists.1 h.1
  | succ k => simpa using ih h.2 (by simpa using hk)
theorem qKp {e : Exit} {c : Code} {Q : Exit → Act → World → Prop} {a : Act} {w : World} (hc : cdOf e = some c) (hq : Q e a w) : c.wpIn (rdF none) 0 P Q a w := by
 cases e <;> cases hc
 ·exact wpIn_exit hq
 ·exact wpIn_ret hq
section
variable {κ : Type} {B : Base} {h0 : H} {Λ : Own} {F : κ → Option Ent} {n : Nat} {a : Act} {w : World}
theorem jS8 {S ι : Type} {gf : FuncId} {fn : Func} {C : List jJa} {t : Nat} {ps : List Nat} {assign body : Code} {Γl : List (Nat × jJa)} {Qq : S → List (Nat × jX3)} {A : ι → List jJa} {g : S → ι → Option (S × Option Nat)} {js : List Exit} {s0 s : S} {j : Option Nat}
  {preI : List (Nat × jX3)} {postI : List Po} {gI ks : List Nat} {Qx : Exit → Act → World → Prop}
  (hAt : At B h0 (mkG Γl) Λ F n a w) (ht : mkG Γl t = jK4 gf C) (hf : P.funcs[gf]? = some fn) (hbd : jD2 fn = true)
  (hit : ∀ YE : S × Option Nat → Ent → Prop, jWf P gf (fYl P A YE (yl g js.length) :: C) ((5000, yE YE (s0, none)) :: preI) (Po.to (yE YE (s, j)) :: postI) none fT0)
  (hQ0 : HasQ Λ (Qq s0)) (hks : ∀ s, (Qq s).map (·.1) = ks) (hG : ∀ s, GhL (Qq s)) (hI : HasQ Λ (qKe preI gI)) (hIk : jUg [] [] preI postI gI)
  (hchk : (jUk (4997 :: 4998 :: 4999 :: (ks ++ gI)) && qUr Γl && jUk ps && ps.all (fun p => Nat.blt p n) && qWc js) = true) (hcc : ∀ q, jR1 ((5000, q) :: preI) (4997 :: gI) = true) (hA : ∀ i, (A i).length = ps.length ∧ jKb (A i) = true)
  (hround : ∀ (s : S) (i : ι) (s' : S) (j : Option Nat), g s i = some (s', j) → ∀ (κ : Type) (B : Base) (h0 : H) (F : κ → Option Ent) (l : Nat) (r : Loop) (D : Nat) (a : Act) (w : World), r.state = .ready → At B h0 (mkG (qZn ps (A i) ++ Γl)) (mkO ((4998, jMr l r) :: (4999, jF3 D) :: Qq s)) F n a w →
   assign.wpK (some l) P (Exit.then (fun a₁ w₁ => ∃ w₂, (Instr.beginRound l).run P w₁ = .ok () w₂ ∧ body.wpK (some l) P (RoundP n B h0 F l r D (Qq s') js j) a₁ w₂) (fun _ _ _ => False)) a w)
  (hdone : ∀ (D : Nat) (a : Act) (w : World), At (B.d (mark D)) h0 (mkG Γl) (mkO ((4999, jF3 D) :: (Qq s ++ qJ7 preI gI postI))) F n a w → Qx (xOf js j) a w) : (Code.rangeFunc (.tmp t) ps.toArray assign body).wpK none P Qx a w := by
 simp only [Bool.and_eq_true] at hchk
 obtain ⟨⟨⟨⟨hnd, hdG⟩, hnp⟩, hpl⟩, hjs⟩ := hchk
 simp only [jD2, Bool.and_eq_true, Bool.not_eq_true'] at hbd
 have hbody : fn.body ≠ none := by
  intro hx; rw [hx] at hbd; cases hbd.1
 have hname : fn.name ≠ "runtime.NumGoroutine" := by simpa using hbd.2
 obtain ⟨h, L, hle, hst, hOw, hsat, hsz, hdf⟩ := hAt
 have htv := hsat t
 rw [ht] at htv
 obtain ⟨cap, hv, hcap⟩ := htv
 have hv : a.eval (.tmp t) = .func (.func gf) #[] cap.toArray := hv
 refine wpIn_rangeFunc (F := rdF none) (n := 0) ?_
 intro fnid _
 obtain ⟨rec0, hrec0⟩ : ∃ rec0 : Loop, rec0 = { state := .ready, pending := none, fn := fnid, tmps := a.tmps, params := ps.toArray, assign, body, defers := w.heap.size } := ⟨_, rfl⟩
 obtain ⟨D, hD⟩ : ∃ D, w.heap.size = D := ⟨_, rfl⟩
 obtain ⟨l, hl⟩ : ∃ l, w.heap.size + 1 = l := ⟨_, rfl⟩
 refine ⟨w.heap.size + 1, [mark w.heap.size], (w.alloc (.deferred (some []))).alloc (.loop rec0), { target := .fn (.func gf) cap.toArray, args := #[.func (.yield (w.heap.size + 1)) #[] #[]] }, (w.alloc (.deferred (some []))).alloc (.loop rec0), gf,
  #[.func (.yield (w.heap.size + 1)) #[] #[]] ++ cap.toArray, (w.alloc (.deferred (some []))).alloc (.loop rec0), by rw [hrec0]; exact run_enterLoop_outer _ _ _ _ _, ?_, fun _ _ => trivial, ?_, fun hh => (by cases hh), jNr.2 ?_⟩
 ·simp only [resolve, hv]
  simp [go_sem]
 ·simp [invoke, callFunc, hf, hname, hbody]
 -- the keys
 have hn3 : has (ks ++ gI) 4997 = false ∧ has (ks ++ gI) 4998 = false ∧ has (ks ++ gI) 4999 = false ∧ jUk (ks ++ gI) = true := by
  simp only [jUk, has, Bool.and_eq_true, Bool.not_eq_true', Bool.or_eq_false_iff] at hnd
  exact ⟨hnd.1.2.2, hnd.2.1.2, hnd.2.2.1, hnd.2.2.2⟩
 have has_app : ∀ (x y : List Nat) (k : Nat), has (x ++ y) k = (has x k || has y k) := by
  intro x y k
  induction x with
  | nil => rfl
  | cons z x ih => simp only [List.cons_append, has, ih, Bool.or_assoc]
 have hdisj : ∀ k, has ks k = true → has gI k = true → False := by
  have : ∀ (x y : List Nat), jUk (x ++ y) = true → ∀ k, has x k = true → has y k = true → False := by
   intro x
   induction x with
   | nil => intro y _ k h; cases h
   | cons z x ih =>
    intro y hn k h1 h2
    simp only [List.cons_append, jUk, Bool.and_eq_true, Bool.not_eq_true'] at hn
    simp only [has, Bool.or_eq_true] at h1
    rcases h1 with h1 | h1
    ·rw [jWm] at h1; subst h1
     rw [has_app, h2, Bool.or_true] at hn; cases hn.1
    ·exact ih y hn.2 k h1 h2
  exact this ks gI hn3.2.2.2
 have nodup_left : ∀ (x y : List Nat), jUk (x ++ y) = true → jUk x = true := by
  intro x
  induction x with
  | nil => intro y _; rfl
  | cons z x ih =>
   intro y hn
   simp only [List.cons_append, jUk, Bool.and_eq_true, Bool.not_eq_true'] at hn
   rw [has_app, Bool.or_eq_false_iff] at hn
   simp only [jUk, Bool.and_eq_true, Bool.not_eq_true']
   exact ⟨hn.1.1, ih y hn.2⟩
 have hks' : has ks 4997 = false ∧ has ks 4998 = false ∧ has ks 4999 = false ∧ jUk ks = true := by
  have h1 := hn3.1; have h2 := hn3.2.1; have h3 := hn3.2.2.1
  rw [has_app, Bool.or_eq_false_iff] at h1 h2 h3
  exact ⟨h1.1, h2.1, h3.1, nodup_left _ _ hn3.2.2.2⟩
 have hgI' : has gI 4997 = false ∧ has gI 4998 = false ∧ has gI 4999 = false := by
  have h1 := hn3.1; have h2 := hn3.2.1; have h3 := hn3.2.2.1
  rw [has_app, Bool.or_eq_false_iff] at h1 h2 h3
  exact ⟨h1.2, h2.2, h3.2⟩
 have nd : ∀ {s : S} {kes : KE} (r : Loop), QOk (Qq s) kes → jLk ((4998, jVy l r) :: (4999, jWc D) :: kes) = true := by
  intro s kes r hq
  refine qXw ?_
  have h1 := (qJw hq).trans (hks s)
  simp only [List.map_cons, h1, jUk, has, hks'.2.1, hks'.2.2.1, hks'.2.2.2]
  rfl
 -- the state of the loop as an entry
 obtain ⟨recOf, hrecOf⟩ : ∃ recOf : Option Nat → Loop, recOf = fun x => match x with | none => rec0 | some k => { rec0 with state := .done, pending := cdOf (js.getD k .normal) } := ⟨_, rfl⟩
 obtain ⟨YE, hYE⟩ : ∃ YE : S × Option Nat → Ent → Prop, YE = fun x e => (∀ k, x.2 = some k → k < js.length) ∧ ∃ kes, QOk (Qq x.1) kes ∧ jMh ((4998, jVy l (recOf x.2)) :: (4999, jWc D) :: kes) ∧ e = jUu ((4998, jVy l (recOf x.2)) :: (4999, jWc D) :: kes) := ⟨_, rfl⟩
 have lkQ : ∀ {s : S} {kes : KE} (r : Loop) {k : Nat}, QOk (Qq s) kes → has ks k = false → k ≠ 4998 → k ≠ 4999 → lkE ((4998, jVy l r) :: (4999, jWc D) :: kes) k = none := by
  intro s kes r k hq hk h8 h9
  have h1 := jAy (l := kes) (k := k)
  rw [(qJw hq).trans (hks s), hk] at h1
  have n8 : Nat.beq 4998 k = false := by rw [Bool.eq_false_iff, Ne, jWm]; exact fun x => h8 x.symm
  have n9 : Nat.beq 4999 k = false := by rw [Bool.eq_false_iff, Ne, jWm]; exact fun x => h9 x.symm
  simp only [lkE, n8, n9, cond_false]
  cases hl : lkE kes k with
  | none => rfl
  | some e => rw [hl] at h1; cases h1
 have lkQ2 : ∀ {kes : KE} (r : Loop) {k : Nat}, k ≠ 4998 → k ≠ 4999 → lkE ((4998, jVy l r) :: (4999, jWc D) :: kes) k = lkE kes k := by
  intro kes r k h8 h9
  have n8 : Nat.beq 4998 k = false := by rw [Bool.eq_false_iff, Ne, jWm]; exact fun x => h8 x.symm
  have n9 : Nat.beq 4999 k = false := by rw [Bool.eq_false_iff, Ne, jWm]; exact fun x => h9 x.symm
  simp only [lkE, n8, n9, cond_false]
 have ne8 : ∀ {k : Nat}, has ks k = true → k ≠ 4997 ∧ k ≠ 4998 ∧ k ≠ 4999 := fun {k} hk => ⟨fun e => (by rw [e, hks'.1] at hk; cases hk), fun e => (by rw [e, hks'.2.1] at hk; cases hk), fun e => (by rw [e, hks'.2.2.1] at hk; cases hk)⟩
 have ne8I : ∀ {k : Nat}, has gI k = true → k ≠ 4997 ∧ k ≠ 4998 ∧ k ≠ 4999 := fun {k} hk => ⟨fun e => (by rw [e, hgI'.1] at hk; cases hk), fun e => (by rw [e, hgI'.2.1] at hk; cases hk), fun e => (by rw [e, hgI'.2.2] at hk; cases hk)⟩
 -- the start
 have hst1 := hst.own_new (.deferred (some [])) 4999 (jWc D) (by intro c hc; simp [jWc] at hc; rw [hc, hD]) (by show World.mem _ D = _; rw [← hD]; exact jBy _ _)
 have hst2 := hst1.own_new (.loop rec0) 4998 (jVy l rec0) (by intro c hc; simp [jVy] at hc; rw [hc, ← hl]; simp) (by show World.mem _ l = _; rw [← hl]; have := jBy (w.alloc (.deferred (some []))) (.loop rec0); rwa [World.size_alloc] at this)
 obtain ⟨kes, hk1, hk2, hk3⟩ := jS3 hOw hQ0 (hG s0)
 have hkm : ∀ p ∈ kes, has ks p.1 = true := by
  intro p hp
  have := jAy (l := kes) (k := p.1)
  rw [hk1.trans (hks s0), jM9 (k := p.1) (e := p.2) hp] at this
  exact this
 have hL2 : ∀ p ∈ ((4998, jVy l rec0) :: (4999, jWc D) :: kes), (set1 (set1 L 4999 (jWc D)) 4998 (jVy l rec0)) p.1 = some p.2 := by
  intro p hp
  rcases List.mem_cons.1 hp with rfl | hp
  ·simp [set1]
  ·rcases List.mem_cons.1 hp with rfl | hp
   ·simp [set1]
   ·have h1 := ne8 (hkm p hp)
    simp [set1, h1.2.1, h1.2.2, hk3 p hp]
 have hdj := jN0 hst2 hL2 (nd rec0 hk2)
 have hst3 := hst2.jUu 4997 hL2
 have hcap' : (#[.func (.yield (w.heap.size + 1)) #[] #[]] ++ cap.toArray : Array Value) = (Value.func (.yield l) #[] #[] :: cap).toArray := by rw [← hl]; apply Array.ext'; simp
 rw [hcap']
 -- a round
 have hyl : YlOk P A YE (yl g js.length) h l := by
  intro i x x' b hY κ' B' L' h1 w1 vs e hle1 hr1 hye hlen hargs
  subst hYE
  obtain ⟨xs, xj⟩ := x
  have hxj : xj = none := by
   cases xj with
   | none => rfl
   | some _ => cases hY
  subst hxj
  obtain ⟨_, kes1, hq1, hd1, rfl⟩ := hye
  have hro : recOf none = rec0 := by rw [hrecOf]
  simp only [hro] at hd1 hr1
  cases hg : g xs i with
  | none => simp only [yl, hg] at hY; cases hY
  | some y =>
   obtain ⟨s', j'⟩ := y
   have hjb : x' = (s', j') ∧ b = j'.isNone ∧ ∀ k, j' = some k → k < js.length := by
    simp only [yl, hg] at hY
    cases j' with
    | none => cases hY; exact ⟨rfl, rfl, fun k hk => (by cases hk)⟩
    | some k =>
     simp only [] at hY
     cases hb : Nat.blt k js.length with
     | false => rw [hb] at hY; cases hY
     | true =>
      rw [hb] at hY; cases hY
      rw [Nat.blt_eq] at hb
      exact ⟨rfl, rfl, fun k' hk => (by cases hk; exact hb)⟩
   obtain ⟨rfl, rfl, hjlt⟩ := hjb
   have hr2 : St B' h1 (Sum.elim (fun k : Nat => if k = 4997 then some (jUu ((4998, jVy l rec0) :: (4999, jWc D) :: kes1)) else none) L') w1 := by
    refine hr1.reind (fun k => match k with | .inl _ => .inl () | .inr x => .inr x) ?_ ?_
    ·intro k e he
     cases k with
     | inr x => exact he
     | inl k =>
      simp only [Sum.elim_inl] at he
      split at he
      ·exact he
      ·cases he
    ·intro k k' e e' hk hk' hne
     cases k with
     | inr x => cases k' with
      | inr x' => intro he; exact hne (by rw [Sum.inr.inj he])
      | inl k' => intro he; cases he
     | inl k => cases k' with
      | inr x' => intro he; cases he
      | inl k' =>
       intro _
       simp only [Sum.elim_inl] at hk hk'
       split at hk
       ·split at hk'
        ·rename_i h1 h2; exact hne (by rw [h1, h2])
        ·cases hk'
       ·cases hk
   have hr3 := hr2.splitK (l := (4998, jVy l rec0) :: (4999, jWc D) :: kes1) (g := 4997) (by simp) hd1
   have hl1 : w1.heap[l]? = some (.loop rec0) := (hr3.own (k := Sum.inl 4998) (e := jVy l rec0) rfl).2
   refine ⟨fnid, _, assign, body, by have := run_yield (P := P) (args := vs.toArray) hl1 (by rw [hrec0]; simp [← hlen, (hA i).1]); rw [hrec0] at this; exact this, roundIn_of_wpIn trivial ?_⟩
   have hfold : ∀ (t : Array Value), (ps.toArray.zip vs.toArray).foldl (fun tmps (x : Nat × Value) => tmps.setIfInBounds x.1 x.2) t = (ps.zip vs).foldl (fun t (p : Nat × Value) => t.setIfInBounds p.1 p.2) t := by
    intro t
    rw [← Array.foldl_toList]
    congr 1
    simp
   have hact : At B'.e h1 (mkG (qZn ps (A i) ++ Γl)) (mkO ((4998, jMr l rec0) :: (4999, jF3 D) :: Qq xs)) L' n { tmps := (ps.toArray.zip vs.toArray).foldl (fun tmps (x : Nat × Value) => tmps.setIfInBounds x.1 x.2) a.tmps, defers := [] } w1 := by
    refine ⟨h1, _, Hle.refl h1, hr3.toE, ?_, ?_, ?_, rfl⟩
    ·intro k q hq
     simp only [mkO, lkO] at hq
     cases hb8 : Nat.beq 4998 k with
     | true => rw [hb8] at hq; cases hq; rw [jWm] at hb8; subst hb8; exact ⟨_, rfl, rfl⟩
     | false =>
      rw [hb8] at hq
      cases hb9 : Nat.beq 4999 k with
      | true => rw [hb9] at hq; cases hq; rw [jWm] at hb9; subst hb9; exact ⟨_, rfl, rfl⟩
      | false =>
       rw [hb9] at hq
       obtain ⟨e, he, hqv⟩ := qZw hq1 (hG xs) hq
       refine ⟨e, ?_, hqv _⟩
       have n8 : k ≠ 4998 := fun x => by rw [jWm.2 x.symm] at hb8; cases hb8
       have n9 : k ≠ 4999 := fun x => by rw [jWm.2 x.symm] at hb9; cases hb9
       simp only [lkQ2 rec0 n8 n9, he]
    ·intro s1
     have := qVz (h := h1) (ps := ps) (A := A i) (vs := vs) a.tmps hnp (fun p hp => by have := List.all_eq_true.1 hpl p hp; rw [Nat.blt_eq] at this; rw [hsz]; exact this) (hA i).1 (by rw [← hlen, (hA i).1]) (hA i).2 (fun s2 => by
      have h2 := hsat s2
      unfold jJa.at jJa.dv at h2
      rw [jNg hdG] at h2
      exact (mkG Γl s2).mono hle1 h2) hargs s1
     unfold jJa.at jJa.dv
     have hdp : (mkG (qZn ps (A i) ++ Γl) s1).dep = none := by
      have : qUr (qZn ps (A i) ++ Γl) = true := by
       have : ∀ (ps : List Nat) (A : List jJa), jKb A = true → qUr (qZn ps A ++ Γl) = true := by
        intro ps
        induction ps with
        | nil => intro A _; exact hdG
        | cons p ps ih =>
         intro A hA
         cases A with
         | nil => exact hdG
         | cons f A =>
          simp only [jKb, Bool.and_eq_true] at hA
          simp only [qZn, List.cons_append, qUr, Bool.and_eq_true]
          exact ⟨hA.1, ih A hA.2⟩
       exact this ps (A i) (hA i).2
      exact jNg this
     rw [hdp]
     show (mkG (qZn ps (A i) ++ Γl) s1).p h1 undef (Array.getD _ s1 undef)
     rw [hfold]; exact this
    ·show Array.size _ = n
     rw [hfold, qQn]; exact hsz
   refine wpIn_mono (hround xs i s' j' hg κ' B'.e h1 L' l rec0 D _ w1 (by rw [hrec0]) hact) ?_
   intro e1 a1 w2 hq2
   cases e1 <;> first | exact hq2.elim | skip
   obtain ⟨w3, hb3, hbd3⟩ := hq2
   refine ⟨w3, hb3, wpIn_mono hbd3 ?_⟩
   rintro e2 a2 w4 ⟨hx2, Γ2, Λ2, ⟨h2, L2, hle2, hst4, hOw2, hsat2, _, _⟩, h8, h9, hQ2⟩
   obtain ⟨e8, hL8, rfl⟩ := hOw2 4998 _ h8
   obtain ⟨e9, hL9, rfl⟩ := hOw2 4999 _ h9
   obtain ⟨kes2, hk21, hk22, hk23⟩ := jS3 hOw2 hQ2 (hG s')
   have hkm2 : ∀ p ∈ kes2, has ks p.1 = true := by
    intro p hp
    have := jAy (l := kes2) (k := p.1)
    rw [hk21.trans (hks s'), jM9 (k := p.1) (e := p.2) hp] at this
    exact this
   have fin : ∀ (jump : Option Code) (r' : Loop), r' = { jHn rec0 with state := if jump.isNone then .ready else .done, pending := jump } → recOf j' = r' → jump.isNone = j'.isNone →
     ∃ v w', (Instr.endRound l jump).run P w4 = .ok v w' ∧ ∃ h'' e', (Ending.returned v) = .returned (.bool j'.isNone) ∧ Hle h1 h'' ∧ St B' h'' (Sum.elim (fun _ : Unit => some e') L') w' ∧ ((∀ k, (s', j').2 = some k → k < js.length) ∧ ∃ kes, QOk (Qq (s', j').1) kes ∧ jMh ((4998, jVy l (recOf (s', j').2)) :: (4999, jWc D) :: kes) ∧ e' = jUu ((4998, jVy l (recOf (s', j').2)) :: (4999, jWc D) :: kes)) := by
    intro jump r' hr' hro' hji
    obtain ⟨hl4, hst5⟩ := jT0 hst4 hL8 r'
    have hL5 : ∀ p ∈ ((4998, jVy l r') :: (4999, jWc D) :: kes2), (set1 L2 4998 (jVy l r')) p.1 = some p.2 := by
     intro p hp
     rcases List.mem_cons.1 hp with rfl | hp
     ·simp [set1]
     ·rcases List.mem_cons.1 hp with rfl | hp
      ·simp [set1, hL9]
      ·have h1 := ne8 (hkm2 p hp)
       simp [set1, h1.2.1, hk23 p hp]
    have hdj5 := jN0 hst5 hL5 (nd r' hk22)
    have hst6 := (hst5.jUu 4997 hL5).one 4997 (e := jUu ((4998, jVy l r') :: (4999, jWc D) :: kes2)) (by simp)
    refine ⟨.bool jump.isNone, w4.putObj l (.loop r'), by have := run_endRound (P := P) jump hl4; rw [hr']; exact this, h2, _, by rw [hji], hle2, hst6.ofE, hjlt, kes2, hk22, ?_, ?_⟩
    ·show jMh ((4998, jVy l (recOf j')) :: _); rw [hro']; exact hdj5
    ·show _ = jUu ((4998, jVy l (recOf j')) :: _); rw [hro']
   cases j' with
   | none =>
    have : e2 = .normal := hx2.symm
    subst this
    obtain ⟨v, w5, hrun, hR⟩ := fin none rec0 (by rw [hrec0]; rfl) (by rw [hrecOf]) rfl
    exact ⟨v, w5, hrun, hR⟩
   | some k =>
    have hx2 : js.getD k .normal = e2 := hx2
    obtain ⟨c, hc⟩ := jSl hjs (hjlt k rfl)
    obtain ⟨v, w5, hrun, hR⟩ := fin (some c) { jHn rec0 with state := .done, pending := some c } rfl (by rw [hrecOf]; simp only []; rw [hc]; rfl) rfl
    rw [hx2] at hc
    cases e2 <;> cases hc
    ·exact ⟨v, w5, hrun, hR⟩
    ·exact ⟨v, w5, hrun, hR⟩
 -- the call
 have hpre : jT4 ((5000, yE YE (s0, none)) :: preI) (fun k => (toC ((5000, yE YE (s0, none)) :: preI) (4997 :: gI) k).bind (fun k => if k = 4997 then some (jUu ((4998, jVy l rec0) :: (4999, jWc D) :: kes)) else if (lkE ((4998, jVy l rec0) :: (4999, jWc D) :: kes) k).isSome then none else (set1 (set1 L 4999 (jWc D)) 4998 (jVy l rec0)) k)) (plc fun k => (Value.func (.yield l) #[] #[] :: cap).getD k undef) := by
  refine qKd (N := []) (xs := []) (cap := Value.func (.yield l) #[] #[] :: cap) (h := h) (a := a) (post := Po.to (yE YE (s, j)) :: postI) (L := fun k => if k = 4997 then some (jUu ((4998, jVy l rec0) :: (4999, jWc D) :: kes)) else if (lkE ((4998, jVy l rec0) :: (4999, jWc D) :: kes) k).isSome then none else (set1 (set1 L 4999 (jWc D)) 4998 (jVy l rec0)) k) trivial (jUg.gh rfl Gh.yE (fun q hq => by cases hq; exact Gh.yE) hIk) ⟨⟨_, rfl, ?_⟩, ?_⟩ (fun k gg hk => by rw [hk]; rfl) (hcc _)
  ·subst hYE
   exact ⟨fun k hk => (by cases hk), kes, hk2, (by rw [hrecOf]; exact hdj), (by rw [hrecOf])⟩
  ·have : ∀ (pre : List (Nat × jX3)) (gs : List Nat), HasQ Λ (qKe pre gs) → (∀ k, has gs k = true → has gI k = true) → qUu (qKe pre gs) (fun k => if k = 4997 then some (jUu ((4998, jVy l rec0) :: (4999, jWc D) :: kes)) else if (lkE ((4998, jVy l rec0) :: (4999, jWc D) :: kes) k).isSome then none else (set1 (set1 L 4999 (jWc D)) 4998 (jVy l rec0)) k) a := by
    intro pre
    induction pre with
    | nil => intro gs _ _; trivial
    | cons x r ih =>
     obtain ⟨k0, q0⟩ := x
     intro gs hq hm
     cases gs with
     | nil => trivial
     | cons g0 gs =>
      refine ⟨?_, ih gs hq.2 (fun k hk => hm k (by simp only [has, hk, Bool.or_true]))⟩
      obtain ⟨e, he, hqe⟩ := hOw g0 q0 hq.1
      have hg0 : has gI g0 = true := hm g0 (by simp only [has, Nat.beq_refl, Bool.true_or])
      have hne := ne8I hg0
      have hk0 : has ks g0 = false := by
       cases hx : has ks g0 with
       | false => rfl
       | true => exact (hdisj g0 hx hg0).elim
      refine ⟨e, ?_, hqe⟩
      simp only [lkQ rec0 hk2 hk0 hne.2.1 hne.2.2]
      simp [hne.1, set1, hne.2.1, hne.2.2, he]
   exact this preI gI hI (fun k hk => hk)
 refine (callsG (hit YE) (hcc _) hst3 (by simp [hcap.1]) hpre ?_).mono ?_
 ·intro j1 g1 u hg1 hu
  cases j1 with
  | zero => cases hg1; cases hu; exact ⟨l, rfl, hyl⟩
  | succ j1 => exact hcap.2 j1 g1 u (by simpa using hg1) (by simpa using hu)
 rintro en w5 ⟨v, h5, E5, rfl, hle5, hst5, hpost, _⟩
 obtain ⟨⟨e5, hE5, hye5⟩, hpostI⟩ := hpost
 have hye5 : YE (s, j) e5 := hye5
 subst hYE
 obtain ⟨hjlt, kes5, hq5, hd5, rfl⟩ := hye5
 have h47 : ofC ((5000, yE (fun x e => (∀ k, x.2 = some k → k < js.length) ∧ ∃ kes, QOk (Qq x.1) kes ∧ jMh ((4998, jVy l (recOf x.2)) :: (4999, jWc D) :: kes) ∧ e = jUu ((4998, jVy l (recOf x.2)) :: (4999, jWc D) :: kes)) (s0, none)) :: preI) (4997 :: gI) 4997 = some 5000 := rfl
 have hst6 := hst5.splitK (l := (4998, jVy l (recOf j)) :: (4999, jWc D) :: kes5) (g := 4997) (by simp only [h47]; exact hE5) hd5
 obtain ⟨hl6, hst7⟩ := jT0 hst6 (k := 4998) (l := l) (r := recOf j) rfl { recOf j with state := .exhausted }
 have hbusy : (recOf j).state ≠ .busy := by
  rw [hrecOf]
  cases j with
  | none => rw [hrec0]; simp
  | some k => simp
 have hend := run_endLoop (P := P) hl6 hbusy
 have hAtE : At (B.d (mark D)) h0 (mkG Γl) (mkO ((4999, jF3 D) :: (Qq s ++ qJ7 preI gI postI))) F n { a with defers := [mark w.heap.size] ++ a.defers } (w5.putObj l (.loop { recOf j with state := .exhausted })) := by
  refine ⟨h5, _, hle.trans hle5, hst7.toD, ?_, ?_, hsz, by rw [hD, hdf]; rfl⟩
  ·intro k q hq
   simp only [mkO, lkO] at hq
   cases hb9 : Nat.beq 4999 k with
   | true => rw [hb9] at hq; cases hq; rw [jWm] at hb9; subst hb9; exact ⟨jWc D, rfl, rfl⟩
   | false =>
    rw [hb9, cond_false] at hq
    have hq : mkO (Qq s ++ qJ7 preI gI postI) k = some q := hq
    rw [qJ8] at hq
    cases hm : mkO (Qq s) k with
    | some q1 =>
     rw [hm] at hq; cases hq
     have hhk := qZy hm
     rw [hks s] at hhk
     have hne := ne8 hhk
     obtain ⟨e, he, hqv⟩ := qZw hq5 (hG s) hm
     refine ⟨e, ?_, hqv _⟩
     simp only [set1, hne.2.1, if_false, lkQ2 _ hne.2.1 hne.2.2, he]
    | none =>
     rw [hm] at hq
     have hq : mkO (qJ7 preI gI postI) k = some q := hq
     have hgk := qVc (qZy hq)
     have hne := ne8I hgk
     have hk0 : has ks k = false := by
      cases hx : has ks k with
      | false => rfl
      | true => exact (hdisj k hx hgk).elim
     have hcc' := hcc (yE (fun x e => (∀ k, x.2 = some k → k < js.length) ∧ ∃ kes, QOk (Qq x.1) kes ∧ jMh ((4998, jVy l (recOf x.2)) :: (4999, jWc D) :: kes) ∧ e = jUu ((4998, jVy l (recOf x.2)) :: (4999, jWc D) :: kes)) (s0, none))
     simp only [jR1, Bool.and_eq_true] at hcc'
     obtain ⟨e, k', h1, h2, h3⟩ := qW8 hpostI hIk hcc'.2 hq
     refine ⟨e, ?_, h3 _⟩
     have n7 : Nat.beq 4997 k = false := by rw [Bool.eq_false_iff, Ne, jWm]; exact fun x => hne.1 x.symm
     simp only [set1, hne.2.1, if_false, lkQ _ hq5 hk0 hne.2.1 hne.2.2, hne.1, ofC, n7, cond_false, h1, h2]
  ·intro s1
   have h2 := (mkG Γl s1).mono hle5 (hsat s1)
   unfold jJa.at jJa.dv at h2 ⊢
   rw [jNg hdG] at h2 ⊢
   exact h2
 rw [hl]
 cases j with
 | none => exact ⟨none, _, (by rw [hend]; congr 1; rw [hrecOf, hrec0]), hdone D _ _ hAtE⟩
 | some k =>
  obtain ⟨c, hc⟩ := jSl hjs (hjlt k rfl)
  exact ⟨some c, _, (by rw [hend]; congr 1; rw [hrecOf]; exact hc), qKp hc (hdone D _ _ hAtE)⟩
end
end Go.KB
