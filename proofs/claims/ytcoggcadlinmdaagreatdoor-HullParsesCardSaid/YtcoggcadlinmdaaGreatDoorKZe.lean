/- Functions that use what lies at known places: entries under keys that are slots, or no slots. Ranges over maps that are owned: whatever the order. Ranges over functions: the iterator, yield, the rounds. The rule on ranges over functions. No condition. -/
import Derived.Test.YtcoggcadlinmdaaGreatDoorKZd
import Derived.Maps.RangeRun
import Derived.RangeFuncCalls
import Derived.RangeFuncBound
namespace Go.KB
variable {P : Program} {o : Oper} {N : List (Nat × jJd)} {α β γ : Type}
def plc (vs : Nat → Value) (k : Nat) : Value := bif Nat.ble 5000 k then undef else vs k
def qJq : List (Nat × jZr) → (Nat → Option Ent) → (Nat → Value) → Prop
 | [], _, _ => True
 | (k, q) :: r, E, g => (∃ e, E k = some e ∧ q (g k) e) ∧ qJq r E g
inductive Po where
 | keep
 | to (q : jZr)
 | gone
def jL0 : List (Nat × jZr) → List Po → (Nat → Option Ent) → (Nat → Value) → Prop
 | (k, q0) :: r, p :: ps, E, g => (match p with | .to q => ∃ e, E k = some e ∧ q (g k) e | .keep => ∃ e, E k = some e ∧ q0 (g k) e | .gone => True) ∧ jL0 r ps E g
 | _, _, _, _ => True
def qUf (own : Option jZr) (E : Nat → Option Ent) (u : Value) : Prop := match own with | some q => ∃ e, E 9999 = some e ∧ q u e | none => True
def jT4 (P : Program) (f : FuncId) (args : List jJd) (pre : List (Nat × jZr)) (post : List Po) (own : Option jZr) (res : jJd) : Prop :=
 ∀ (κ : Type) (B : Base) (L : κ → Option Ent) (h : H) (w : World) (vs : List Value) (E : Nat → Option Ent), St B h (Sum.elim E L) w → args.length = vs.length → qJq pre E (plc fun k => vs.getD k undef) →
  (∀ (j : Nat) (g : jJd) (u : Value), args[j]? = some g → vs[j]? = some u → g.p h undef u) →
  Calls P f vs.toArray w (fun e w' => ∃ u h' E', e = .returned u ∧ Hle h h' ∧ St B h' (Sum.elim E' L) w' ∧ jL0 pre post E' (plc fun k => vs.getD k undef) ∧ qUf own E' u ∧ res.p h' undef u)
def jCh (P : Program) (fn : Func) {κ : Type} (B : Base) (h0 : H) (F : κ → Option Ent) (vM : Nat → Value) (pre : List (Nat × jZr)) (post : List Po) (own : Option jZr) (res : jJd) : Exit → Act → World → Prop :=
 fun e a w => B.df = [] → jB2 P fn (fun e w' => ∃ u h' E', e = .returned u ∧ Hle h0 h' ∧ St B h' (Sum.elim E' F) w' ∧ jL0 pre post E' (plc vM) ∧ qUf own E' u ∧ res.p h' undef u) e a w
theorem qJq.get {E : Nat → Option Ent} {g : Nat → Value} : ∀ {pre : List (Nat × jZr)}, qJq pre E g → ∀ {k q}, mkO pre k = some q → ∃ e, E k = some e ∧ q (g k) e := by
 intro pre
 induction pre with
 | nil => intro _ k q h; cases h
 | cons x r ih =>
  obtain ⟨k0, q0⟩ := x
  intro h k q hq
  simp only [mkO, lkO] at hq
  cases hk : Nat.beq k0 k with
  | true => rw [hk] at hq; cases hq; rw [jWp] at hk; subst hk; exact h.1
  | false => rw [hk] at hq; exact ih h.2 hq
def pmG (pm : List Nat) (vM : Nat → Value) : List (Nat × jJd) := pm.map fun i => (i, fIs (vM i))
theorem qUp {Γ : List (Nat × jJd)} {vM : Nat → Value} : ∀ {pm : List Nat} {s : Nat}, lkF (pmG pm vM ++ Γ) s = fIs (vM s) ∨ lkF (pmG pm vM ++ Γ) s = lkF Γ s := by
 intro pm
 induction pm with
 | nil => intro s; exact .inr rfl
 | cons i r ih =>
  intro s
  show (bif Nat.beq i s then fIs (vM i) else lkF (pmG r vM ++ Γ) s) = _ ∨ (bif Nat.beq i s then fIs (vM i) else lkF (pmG r vM ++ Γ) s) = _
  cases hk : Nat.beq i s with
  | true => rw [jWp] at hk; subst hk; exact .inl rfl
  | false => exact ih
theorem jFu {vs : List Value} {m : Nat} (k : Nat) : Act.gt { tmps := vs.toArray ++ Array.replicate m undef, defers := [] } k = vs.getD k undef := by
  simp only [Act.gt, Array.getD_eq_getD_getElem?, List.getD_eq_getElem?_getD]
  by_cases hk : k < vs.length
  · rw [Array.getElem?_append_left (by simpa using hk)]; simp
  · rw [Array.getElem?_append_right (by simp; omega)]
    simp only [Array.getElem?_replicate, List.getElem?_eq_none (Nat.le_of_not_lt hk)]
    split <;> rfl
theorem jAq {n : Nat} {f : FuncId} {fn : Func} {c : Code} {args : List jJd} {pre : List (Nat × jZr)} {post : List Po} {own : Option jZr} {res : jJd} (pm : List Nat) (hf : P.funcs[f]? = some fn) (hb : fn.body = some c) (hn : fn.ntmps = n)
  (hchk : (Nat.ble args.length n && Nat.ble n 5000 && jVf args) = true)
  (hwp : ∀ (κ : Type) (B : Base) (h0 : H) (F : κ → Option Ent) (a : Act) (w : World) (vM : Nat → Value), At B h0 (mkG (pmG pm vM ++ jP5 0 args)) (mkO pre) F n a w → c.wpK none P (jCh P fn B h0 F vM pre post own res) a w) : jT4 P f args pre post own res := by
 intro κ B L h w vs E hst hl hpre hargs
 simp only [Bool.and_eq_true, Nat.ble_eq] at hchk
 obtain ⟨⟨hlen, hn5⟩, hdp⟩ := hchk
 have hdep := jZq hdp
 refine jDj rfl hf hb (hwp _ B.e h L _ w (fun k => vs.getD k undef) ⟨h, E, Hle.refl h, hst.toE, ?_, ?_, ?_, rfl⟩) (fun _ _ ⟨v, h', x, he, hl, hs, hp⟩ => ⟨v, h', x, he, hl, hs.ofE, hp⟩)
 ·intro s q hs
  obtain ⟨e, he, hq⟩ := hpre.get hs
  refine ⟨e, he, ?_⟩
  rw [jFu]
  unfold plc at hq
  cases h5 : Nat.ble 5000 s with
  | false => rw [h5] at hq; exact hq
  | true =>
   rw [h5] at hq
   rw [Nat.ble_eq] at h5
   rw [List.getD_eq_getElem?_getD, List.getElem?_eq_none (by omega)]
   exact hq
 ·intro s
  rcases qUp (pm := pm) (Γ := jP5 0 args) (vM := fun k => vs.getD k undef) (s := s) with h1 | h1
  ·show (lkF (pmG pm _ ++ jP5 0 args) s).at _ _ _
   rw [h1]; exact jFu s
  ·show (lkF (pmG pm _ ++ jP5 0 args) s).at _ _ _
   rw [h1]
   rcases jDh args 0 s with h1 | ⟨j, g, h1, h2, h3⟩
   ·rw [h1]; exact trivial
   ·rw [h3]
    have hj := (List.getElem?_eq_some_iff.1 h1).1
    have hv : vs[j]? = some vs[j] := List.getElem?_eq_getElem (by omega)
    have := hargs j g _ h1 hv
    unfold jJd.at jJd.dv
    rw [hdep g (List.mem_of_getElem? h1), h2, Nat.zero_add, jFu, List.getD_eq_getElem?_getD, hv]
    exact this
 ·simp; omega
section
variable {κ : Type} {B : Base} {h h0 : H} {L : Nat → Option Ent} {Γ : Ctx} {Λ : Own} {F : κ → Option Ent} {n : Nat} {a : Act} {w : World} {vM : Nat → Value} {pre : List (Nat × jZr)} {post : List Po} {res : jJd}
def Gh (q : jZr) : Prop := ∀ v v' e, q v e → q v' e
theorem Gh.at {q : jZr} {sv : Value} : Gh (atV q sv) := fun _ _ _ h => h
def PostA (Γ : Ctx) (Λ : Own) (vM : Nat → Value) : List (Nat × jZr) → List Po → Prop
 | (k, q0) :: r, p :: ps => (match p with | .to q => Λ k = some q ∧ ((Nat.ble 5000 k = true ∧ Gh q) ∨ (Nat.ble 5000 k = false ∧ Γ k = fIs (vM k))) | .keep => Λ k = some q0 ∧ ((Nat.ble 5000 k = true ∧ Gh q0) ∨ (Nat.ble 5000 k = false ∧ Γ k = fIs (vM k))) | .gone => True) ∧ PostA Γ Λ vM r ps
 | _, _ => True
theorem PostA.ok {E : Nat → Option Ent} (hOw : jCx Λ L a) (hsat : Sat Γ h a) : ∀ {pre : List (Nat × jZr)} {post : List Po}, PostA Γ Λ vM pre post → (∀ k q, (k, q) ∈ pre → E k = L k) → jL0 pre post E (plc vM) := by
 intro pre
 induction pre with
 | nil => intro post _ _; cases post <;> trivial
 | cons x r ih =>
  obtain ⟨k, q0⟩ := x
  intro post hp hE
  cases post with
  | nil => trivial
  | cons p ps =>
   refine ⟨?_, ih hp.2 (fun k q hk => hE k q (List.mem_cons_of_mem _ hk))⟩
   have key : ∀ q, Λ k = some q ∧ ((Nat.ble 5000 k = true ∧ Gh q) ∨ (Nat.ble 5000 k = false ∧ Γ k = fIs (vM k))) → ∃ e, E k = some e ∧ q (plc vM k) e := by
    rintro q ⟨h1, h2⟩
    obtain ⟨e, hL, hq⟩ := hOw k q h1
    refine ⟨e, by rw [hE k q0 (by simp)]; exact hL, ?_⟩
    unfold plc
    rcases h2 with ⟨h5, hg⟩ | ⟨h5, hf⟩
    ·exact hg _ _ _ hq
    ·rw [h5, cond_false]
     have := hsat k
     rw [hf] at this
     have hv : a.gt k = vM k := this
     rw [← hv]; exact hq
   cases p with
   | gone => trivial
   | to q => exact key q hp.1
   | keep => exact key q0 hp.1
def qJ0 (P : Program) (Γ : Ctx) (Λ : Own) (fn : Func) (res : jJd) : Prop :=
 ∀ (κ : Type) (B : Base) (F : κ → Option Ent) (h : H) (a : Act) (w : World), ∀ L, St B h (Sum.elim L F) w → jCx Λ L a → Sat Γ h a → ∃ v, (results fn a.tmps).run P w = .ok v w ∧ res.p h undef v
theorem qGq {fn : Func} (hr : fn.results = #[]) : qJ0 P Γ Λ fn fT0 := fun _ _ _ _ a w _ _ _ _ => ⟨.tuple #[], by simp [results, hr], rfl⟩
theorem resG1 {fn : Func} {rv : ResultVar} {g : jJd} (hr : fn.results = #[rv]) (h1 : qZx P Γ Λ rv g) : qJ0 P Γ Λ fn g := fun _ B F h a w L hst hOw hsat => by
 obtain ⟨u, hu, hp⟩ := h1 _ B F h a w L hst hOw hsat
 exact ⟨u, by rw [jGh]; simp [hr, hu], hp⟩
theorem qZ1 {fn : Func} {rv rv' : ResultVar} {g g' : jJd} (hr : fn.results = #[rv, rv']) (h1 : qZx P Γ Λ rv g) (h2 : qZx P Γ Λ rv' g') : qJ0 P Γ Λ fn (fT2 g g') := fun _ B F h a w L hst hOw hsat => by
 obtain ⟨u, hu, hp⟩ := h1 _ B F h a w L hst hOw hsat
 obtain ⟨u', hu', hp'⟩ := h2 _ B F h a w L hst hOw hsat
 exact ⟨.tuple #[u, u'], by rw [jGh]; simp [hr, hu, hu'], u, u', rfl, hp, hp'⟩
theorem retG {fn : Func} (hA : PostA Γ Λ vM pre post) (hR : qJ0 P Γ Λ fn res) (hAt : At B h0 Γ Λ F n a w) : jCh P fn B h0 F vM pre post none res .ret a w := by
 obtain ⟨h, L, hl, hst, hOw, hsat, _, hdf⟩ := hAt
 obtain ⟨u, hu, hp⟩ := hR _ B F h a w L hst hOw hsat
 exact fun hB => .inl ⟨hdf.trans hB, u, hu, u, h, L, rfl, hl, hst, hA.ok hOw hsat (fun _ _ _ => rfl), trivial, hp⟩
theorem retGn {fn : Func} (hA : PostA Γ Λ vM pre post) (hR : qJ0 P Γ Λ fn res) (hAt : At B h0 Γ Λ F n a w) : jCh P fn B h0 F vM pre post none res .normal a w := retG hA hR hAt
end
def qUb (C : List jJd) (h : H) (cap : List Value) : Prop := cap.length = C.length ∧ ∀ (j : Nat) (g : jJd) (u : Value), C[j]? = some g → cap[j]? = some u → g.p h undef u
def qUy (f : FuncId) (C : List jJd) : jJd := ⟨none, fun h _ v => ∃ cap : List Value, v = .func (.func f) #[] cap.toArray ∧ qUb C h cap, fun hl ⟨cap, e, h1, k⟩ => ⟨cap, e, h1, fun j g u hg hu => g.mono hl (k j g u hg hu)⟩⟩
def jCe (P : Program) (N : List (Nat × jJd)) (o : Oper) (xs : List Operand) (f : FuncId) (C : List jJd) : Prop :=
 ∀ (h : H) (a : Act) (w : World), jRa N h a → ∃ cap : List Value, qUb C h cap ∧ (execOp a.eval o).run P w = .ok (.enter f (xs.map a.eval ++ cap).toArray) w
theorem jNf {f : FuncId} {fn : Func} {xs : Array Operand} {ts : Array TypeId} (hf : P.funcs[f]? = some fn) (hbd : jKn fn = true) (ho : o.op = .call { callee := .value (.func f), args := xs, argTypes := ts }) : jCe P N o xs.toList f [] := by
 intro h a w _
 simp only [jKn, Bool.and_eq_true, Bool.not_eq_true'] at hbd
 have hbody : fn.body ≠ none := by
  intro hx; rw [hx] at hbd; cases hbd.1
 have hname : fn.name ≠ "runtime.NumGoroutine" := by simpa using hbd.2
 refine ⟨[], ⟨rfl, fun j g u hg => by simp at hg⟩, ?_⟩
 have e : (xs.toList.map a.eval ++ []).toArray = xs.map a.eval := by apply Array.ext'; simp
 rw [e]
 simp [execOp, ho, resolve, Act.eval, Deferred.ofValue, invoke, callFunc, hf, hname, hbody]
def toC : List (Nat × jZr) → List Nat → Nat → Option Nat
 | (k, _) :: r, g :: gs, x => bif Nat.beq k x then some g else toC r gs x
 | _, _, _ => none
def ofC : List (Nat × jZr) → List Nat → Nat → Option Nat
 | (k, _) :: r, g :: gs, x => bif Nat.beq g x then some k else ofC r gs x
 | _, _, _ => none
def hasK : List (Nat × jZr) → Nat → Bool
 | [], _ => false
 | (k, _) :: r, x => Nat.beq k x || hasK r x
def jTw : List (Nat × jZr) → List Nat → Bool
 | (k, _) :: r, g :: gs => !(has gs g) && !(hasK r k) && !(Nat.beq k 9999) && jTw r gs
 | [], [] => true
 | _, _ => false
theorem qYv : ∀ {pre : List (Nat × jZr)} {gs : List Nat} {k g : Nat}, toC pre gs k = some g → has gs g = true ∧ hasK pre k = true := by
 intro pre
 induction pre with
 | nil => intro gs k g h; cases gs <;> cases h
 | cons x r ih =>
  obtain ⟨k0, q⟩ := x
  intro gs k g h
  cases gs with
  | nil => cases h
  | cons g0 gs =>
   simp only [toC] at h
   cases hk : Nat.beq k0 k with
   | true => rw [hk] at h; cases h; simp [has, hasK, hk, Nat.beq_refl]
   | false => rw [hk] at h; have := ih h; simp [has, hasK, this.1, this.2]
theorem qJ9 : ∀ {pre : List (Nat × jZr)} {gs : List Nat} {k g : Nat}, ofC pre gs g = some k → has gs g = true ∧ hasK pre k = true := by
 intro pre
 induction pre with
 | nil => intro gs k g h; cases gs <;> cases h
 | cons x r ih =>
  obtain ⟨k0, q⟩ := x
  intro gs k g h
  cases gs with
  | nil => cases h
  | cons g0 gs =>
   simp only [ofC] at h
   cases hk : Nat.beq g0 g with
   | true => rw [hk] at h; cases h; simp [has, hasK, hk, Nat.beq_refl]
   | false => rw [hk] at h; have := ih h; simp [has, hasK, this.1, this.2]
theorem qUx : ∀ {pre : List (Nat × jZr)} {gs : List Nat} {k g : Nat}, jTw pre gs = true → toC pre gs k = some g → ofC pre gs g = some k := by
 intro pre
 induction pre with
 | nil => intro gs k g _ h; cases gs <;> cases h
 | cons x r ih =>
  obtain ⟨k0, q⟩ := x
  intro gs k g hc h
  cases gs with
  | nil => cases h
  | cons g0 gs =>
   simp only [jTw, Bool.and_eq_true, Bool.not_eq_true'] at hc
   simp only [toC] at h
   simp only [ofC]
   cases hk : Nat.beq k0 k with
   | true => rw [hk] at h; cases h; rw [jWp] at hk; rw [hk, Nat.beq_refl]; rfl
   | false =>
    rw [hk] at h
    have h1 := qYv h
    have h2 : Nat.beq g0 g = false := by
     rw [Bool.eq_false_iff, Ne, jWp]; intro e; subst e; rw [h1.1] at hc; exact absurd hc.1.1.1 (by simp)
    rw [h2]; exact ih hc.2 h
theorem qQn : ∀ {pre : List (Nat × jZr)} {gs : List Nat} {k g : Nat}, jTw pre gs = true → ofC pre gs g = some k → toC pre gs k = some g := by
 intro pre
 induction pre with
 | nil => intro gs k g _ h; cases gs <;> cases h
 | cons x r ih =>
  obtain ⟨k0, q⟩ := x
  intro gs k g hc h
  cases gs with
  | nil => cases h
  | cons g0 gs =>
   simp only [jTw, Bool.and_eq_true, Bool.not_eq_true'] at hc
   simp only [ofC] at h
   simp only [toC]
   cases hk : Nat.beq g0 g with
   | true => rw [hk] at h; cases h; rw [jWp] at hk; rw [hk, Nat.beq_refl]; rfl
   | false =>
    rw [hk] at h
    have h1 := qJ9 h
    have h2 : Nat.beq k0 k = false := by
     rw [Bool.eq_false_iff, Ne, jWp]; intro e; subst e; rw [h1.2] at hc; exact absurd hc.1.1.2 (by simp)
    rw [h2]; exact ih hc.2 h
theorem qWs : ∀ {pre : List (Nat × jZr)} {gs : List Nat}, jTw pre gs = true → hasK pre 9999 = false := by
 intro pre
 induction pre with
 | nil => intro gs _; rfl
 | cons x r ih =>
  obtain ⟨k0, q⟩ := x
  intro gs hc
  cases gs with
  | nil => cases hc
  | cons g0 gs =>
   simp only [jTw, Bool.and_eq_true, Bool.not_eq_true'] at hc
   simp only [hasK, hc.1.2, ih hc.2, Bool.or_self]
def qUn : List (Nat × jZr) → List Nat → List (Nat × jZr)
 | (_, q) :: r, g :: gs => (g, q) :: qUn r gs
 | _, _ => []
def qJu : List Nat → List Po → Upd
 | g :: gs, .to q :: ps => (g, some q) :: qJu gs ps
 | g :: gs, .gone :: ps => (g, none) :: qJu gs ps
 | _ :: gs, .keep :: ps => qJu gs ps
 | _, _ => []
def qY3 (own : Option jZr) (d : Option Nat) : Upd := match own, d with | some q, some d => [(d, some q)] | _, _ => []
def jUs (N : List (Nat × jJd)) (xs : List Operand) : List (Nat × jZr) → List Po → List Nat → Prop
 | (k, q) :: r, p :: ps, g :: gs => ((Nat.ble 5000 k = true ∧ Gh q ∧ (∀ q', p = .to q' → Gh q')) ∨ (Nat.ble 5000 k = false ∧ ∃ x, xs[k]? = some x ∧ jQf N x (fCp g))) ∧ jUs N xs r ps gs
 | [], [], [] => True
 | _, _, _ => False
theorem jUs.gh {xs : List Operand} {k g : Nat} {q : jZr} {p : Po} {r ps gs} (h5 : Nat.ble 5000 k = true) (h1 : Gh q) (h2 : ∀ q', p = .to q' → Gh q') (h : jUs N xs r ps gs) : jUs N xs ((k, q) :: r) (p :: ps) (g :: gs) := ⟨.inl ⟨h5, h1, h2⟩, h⟩
theorem jUs.slot {xs : List Operand} {k g : Nat} {q : jZr} {p : Po} {x : Operand} {r ps gs} (h5 : Nat.ble 5000 k = false) (h1 : xs[k]? = some x) (h2 : jQf N x (fCp g)) (h : jUs N xs r ps gs) : jUs N xs ((k, q) :: r) (p :: ps) (g :: gs) := ⟨.inr ⟨h5, x, h1, h2⟩, h⟩
theorem jLj : ∀ {gs : List Nat} {post : List Po} {s : Nat}, has gs s = false → lkU (qJu gs post) s = none := by
 intro gs
 induction gs with
 | nil => intro post s _; cases post <;> rfl
 | cons g gs ih =>
  intro post s h
  cases post with
  | nil => rfl
  | cons p ps =>
   simp only [has, Bool.or_eq_false_iff] at h
   cases p <;> simp only [qJu, lkU, h.1, cond_false] <;> exact ih h.2
theorem has_of : ∀ {pre : List (Nat × jZr)} {gs : List Nat} {s : Nat}, jTw pre gs = true → ofC pre gs s = none → has gs s = false := by
 intro pre
 induction pre with
 | nil => intro gs s hc h; cases gs with
  | nil => rfl
  | cons _ _ => cases hc
 | cons x r ih =>
  obtain ⟨k0, q⟩ := x
  intro gs s hc h
  cases gs with
  | nil => rfl
  | cons g gs =>
   simp only [jTw, Bool.and_eq_true, Bool.not_eq_true'] at hc
   simp only [ofC] at h
   cases hb : Nat.beq g s with
   | true => rw [hb] at h; cases h
   | false => rw [hb] at h; simp only [has, hb, Bool.false_or]; exact ih hc.2 h
section
variable {L : Nat → Option Ent} {h : H} {a : Act} {xs : List Operand} {cap : List Value}
theorem qUk {E : Nat → Option Ent} (hn : jRa N h a) : ∀ {pre : List (Nat × jZr)} {post : List Po} {gs : List Nat}, jUs N xs pre post gs → qG3 (qUn pre gs) L a → (∀ k g, toC pre gs k = some g → E k = L g) → jTw pre gs = true → qJq pre E (plc fun k => (xs.map a.eval ++ cap).getD k undef) := by
 intro pre
 induction pre with
 | nil => intro post gs _ _ _ _; trivial
 | cons x r ih =>
  obtain ⟨k, q⟩ := x
  intro post gs hk hK hE hc
  cases post with
  | nil => cases gs <;> exact hk.elim
  | cons p ps => cases gs with
   | nil => exact hk.elim
   | cons g gs =>
    obtain ⟨h1, h2⟩ := hk
    obtain ⟨⟨e, hL, hq⟩, hK⟩ := hK
    have hc0 := hc
    simp only [jTw, Bool.and_eq_true, Bool.not_eq_true'] at hc
    refine ⟨⟨e, by rw [hE k g (by simp [toC, Nat.beq_refl])]; exact hL, ?_⟩, ih h2 hK (fun k' g' hk' => hE k' g' ?_) hc.2⟩
    ·unfold plc
     rcases h1 with ⟨h5, hg, _⟩ | ⟨h5, y, hy, hyx⟩
     ·exact hg _ _ _ hq
     ·rw [h5, cond_false]
      have hv : a.eval y = a.gt g := hyx h a hn
      have : (xs.map a.eval ++ cap).getD k undef = a.eval y := by
       have hlt := (List.getElem?_eq_some_iff.1 hy).1
       rw [List.getD_eq_getElem?_getD, List.getElem?_append_left (by simpa using hlt), List.getElem?_map, hy]; rfl
      show q ((xs.map a.eval ++ cap).getD k undef) e
      rw [this, hv]; exact hq
    ·have h3 := qYv hk'
     have : Nat.beq k k' = false := by
      rw [Bool.eq_false_iff, Ne, jWp]; intro e; subst e; rw [h3.2] at hc; exact absurd hc.1.1.2 (by simp)
     simp only [toC, this, cond_false]; exact hk'
theorem upd_of {E : Nat → Option Ent} {L' : Nat → Option Ent} {a' : Act} (hn : jRa N h a) {s : Nat} (ha : a'.gt s = a.gt s) : ∀ {pre : List (Nat × jZr)} {post : List Po} {gs : List Nat}, jUs N xs pre post gs → jL0 pre post E (plc fun k => (xs.map a.eval ++ cap).getD k undef) →
  jTw pre gs = true → ∀ k, ofC pre gs s = some k → L' s = E k →
  (∃ q, lkU (qJu gs post) s = some (some q) ∧ ∃ e, L' s = some e ∧ q (a'.gt s) e) ∨ lkU (qJu gs post) s = some none ∨ (lkU (qJu gs post) s = none ∧ ∃ q, (s, q) ∈ qUn pre gs ∧ ∃ e, L' s = some e ∧ q (a'.gt s) e) := by
 intro pre
 induction pre with
 | nil => intro post gs _ _ _ k hk; cases gs <;> cases hk
 | cons x r ih =>
  obtain ⟨k0, q⟩ := x
  intro post gs hk hp hc k hof hL
  cases post with
  | nil => cases gs <;> exact hk.elim
  | cons p ps => cases gs with
   | nil => exact hk.elim
   | cons g gs =>
    obtain ⟨h1, h2⟩ := hk
    simp only [jTw, Bool.and_eq_true, Bool.not_eq_true'] at hc
    simp only [ofC] at hof
    cases hb : Nat.beq g s with
    | false =>
     rw [hb] at hof
     have hlk : lkU (qJu (g :: gs) (p :: ps)) s = lkU (qJu gs ps) s := by
      cases p <;> simp [qJu, lkU, hb]
     rw [hlk]
     rcases ih h2 hp.2 hc.2 k hof hL with h | h | ⟨h3, q', h4, h5⟩
     ·exact .inl h
     ·exact .inr (.inl h)
     ·exact .inr (.inr ⟨h3, q', List.mem_cons_of_mem _ h4, h5⟩)
    | true =>
     rw [hb] at hof; cases hof
     rw [jWp] at hb; subst hb
     have key : ∀ q' : jZr, (Nat.ble 5000 k0 = true → Gh q') → (∃ e, E k0 = some e ∧ q' (plc (fun k => (xs.map a.eval ++ cap).getD k undef) k0) e) → ∃ e, L' g = some e ∧ q' (a'.gt g) e := by
      rintro q' hgh ⟨e, he, hq⟩
      refine ⟨e, by rw [hL]; exact he, ?_⟩
      unfold plc at hq
      rcases h1 with ⟨h5, _, _⟩ | ⟨h5, y, hy, hyx⟩
      ·exact hgh h5 _ _ _ hq
      ·rw [h5, cond_false] at hq
       have hv : a.eval y = a.gt g := hyx h a hn
       have : (xs.map a.eval ++ cap).getD k0 undef = a.eval y := by
        have hlt := (List.getElem?_eq_some_iff.1 hy).1
        rw [List.getD_eq_getElem?_getD, List.getElem?_append_left (by simpa using hlt), List.getElem?_map, hy]; rfl
       have hq : q' ((xs.map a.eval ++ cap).getD k0 undef) e := hq
       rw [this, hv] at hq
       rw [ha]; exact hq
     cases p with
     | gone => exact .inr (.inl (by simp [qJu, lkU, Nat.beq_refl]))
     | to q' =>
      refine .inl ⟨q', by simp [qJu, lkU, Nat.beq_refl], key q' (fun h5 => ?_) hp.1⟩
      rcases h1 with ⟨_, _, hg⟩ | ⟨h6, _⟩
      ·exact hg q' rfl
      ·rw [h6] at h5; cases h5
     | keep =>
      refine .inr (.inr ⟨(by simp only [qJu]; exact jLj hc.1.1.1), q, List.mem_cons_self, key q (fun h5 => ?_) hp.1⟩)
      rcases h1 with ⟨_, hg, _⟩ | ⟨h6, _⟩
      ·exact hg
      ·rw [h6] at h5; cases h5
end
theorem jTr {U V : Upd} {s : Nat} : lkU (U ++ V) s = (match lkU U s with | some e => some e | none => lkU V s) := by
 induction U with
 | nil => rfl
 | cons x r ih =>
  obtain ⟨k, e⟩ := x
  simp only [List.cons_append, lkU]
  cases Nat.beq k s with
  | true => rfl
  | false => exact ih
theorem jCu {f : FuncId} {args C : List jJd} {pre : List (Nat × jZr)} {post : List Po} {own : Option jZr} {res : jJd} {xs : List Operand} {gs : List Nat} {K : List (Nat × jZr)} {U : Upd}
    (hc : jT4 P f (args ++ C) pre post own res) (hE : jCe P N o xs f C) (hd : jVf (res :: args) = true) (hchk : (jTw pre gs && !(match o.dst with | some d => has gs d | none => false)) = true)
    (hargs : jKw N args xs) (hkey : jUs N xs pre post gs) (hK : qUn pre gs = K) (hU : qJu gs post ++ qY3 own o.dst = U) : jXh P o N K res U := by
  subst hK; subst hU
  intro κ B F L h a w hst hn hk hdn next Q _ hnext
  simp only [Bool.and_eq_true, Bool.not_eq_true'] at hchk
  obtain ⟨hcc, hdg⟩ := hchk
  obtain ⟨cap, hcap, hrun⟩ := hE h a w hn
  have hdp := jZq hd
  obtain ⟨hlen, hall⟩ := hargs.spec
  have hal := hargs.spec.1
  unfold Oper.wpK
  rw [hrun, jBg]
  have hst1 : St B h (Sum.elim (fun k => (toC pre gs k).bind L) (Sum.elim (fun s => if (ofC pre gs s).isSome then none else L s) F)) w := by
    refine hst.reind (fun k => match k with | .inl k => .inl ((toC pre gs k).getD 0) | .inr (.inl s) => .inl s | .inr (.inr x) => .inr x) ?_ ?_
    · intro k e he
      cases k with
      | inl k =>
        simp only [Sum.elim_inl] at he
        cases ht : toC pre gs k with
        | none => rw [ht] at he; cases he
        | some g => rw [ht] at he; simpa [ht] using he
      | inr k => cases k with
        | inl s =>
          simp only [Sum.elim_inr, Sum.elim_inl] at he
          split at he
          · cases he
          · exact he
        | inr x => exact he
    · intro k k' e e' hk1 hk2 hne
      have key : ∀ k e, (toC pre gs k).bind L = some e → ∃ g, toC pre gs k = some g ∧ ofC pre gs g = some k := by
        intro k e he
        cases ht : toC pre gs k with
        | none => rw [ht] at he; cases he
        | some g => exact ⟨g, rfl, qUx hcc ht⟩
      have keyS : ∀ s e, (if (ofC pre gs s).isSome then none else L s) = some e → ofC pre gs s = none := by
        intro s e he
        split at he
        · cases he
        · rename_i hh; simpa using hh
      cases k with
      | inl k =>
        obtain ⟨g, hg, hg'⟩ := key k e hk1
        cases k' with
        | inl k' =>
          obtain ⟨g2, hg2, hg2'⟩ := key k' e' hk2
          intro he
          simp only [hg, hg2, Option.getD_some] at he
          have := Sum.inl.inj he
          rw [this, hg2'] at hg'; cases hg'; exact hne rfl
        | inr k' => cases k' with
          | inl s =>
            intro he
            simp only [hg, Option.getD_some] at he
            have := Sum.inl.inj he
            have h2 := keyS s e' hk2
            rw [← this, hg'] at h2; cases h2
          | inr x => intro he; cases he
      | inr k => cases k with
        | inl s =>
          have h2 := keyS s e hk1
          cases k' with
          | inl k' =>
            obtain ⟨g2, hg2, hg2'⟩ := key k' e' hk2
            intro he
            simp only [hg2, Option.getD_some] at he
            have := Sum.inl.inj he
            rw [this, hg2'] at h2; cases h2
          | inr k' => cases k' with
            | inl s' => intro he; exact hne (by rw [Sum.inl.inj he])
            | inr x => intro he; cases he
        | inr x => cases k' with
          | inl k' => intro he; cases he
          | inr k' => cases k' with
            | inl s' => intro he; cases he
            | inr x' => intro he; exact hne (by rw [Sum.inr.inj he])
  refine (hc _ B _ h w (xs.map a.eval ++ cap) _ hst1 (by rw [List.length_append, List.length_append, List.length_map, hal, hcap.1]) (qUk hn hkey hk (fun k g hg => by rw [hg]; rfl) hcc) ?_).mono ?_
  · intro j g u hg hu
    by_cases hj : j < args.length
    · rw [List.getElem?_append_left hj] at hg
      rw [List.getElem?_append_left (by rw [List.length_map]; omega), List.getElem?_map] at hu
      cases hx : xs[j]? with
      | none => rw [hx] at hu; cases hu
      | some x =>
        rw [hx] at hu; cases hu
        have := hall j g x hg hx h a hn
        unfold jJd.dv at this
        rw [hdp g (List.mem_cons_of_mem _ (List.mem_of_getElem? hg))] at this
        exact this
    · rw [List.getElem?_append_right (by omega)] at hg
      rw [List.getElem?_append_right (by rw [List.length_map]; omega), List.length_map, ← hal] at hu
      exact hcap.2 _ g u hg hu
  · rintro e w' ⟨v, h', E', rfl, hl, hst', hpost, hown, hp⟩
    refine hnext v h' w' (fun s => if o.dst = some s then (if own.isSome then E' 9999 else none) else match ofC pre gs s with | some k => E' k | none => L s) hl ?_ ?_ ?_
    · unfold jJd.dv
      rw [hdp res List.mem_cons_self]
      exact hp
    · refine hst'.reind (fun k => match k with | .inl s => (if o.dst = some s then .inl 9999 else match ofC pre gs s with | some k => .inl k | none => .inr (.inl s)) | .inr x => .inr (.inr x)) ?_ ?_
      · intro k e he
        cases k with
        | inr x => exact he
        | inl s =>
          simp only [Sum.elim_inl] at he
          simp only []
          split at he
          · rename_i h1
            rw [if_pos h1]
            split at he
            · exact he
            · cases he
          · rename_i h1
            rw [if_neg h1]
            cases ho : ofC pre gs s with
            | some k => rw [ho] at he; exact he
            | none => rw [ho] at he; simpa [ho] using he
      · intro k k' e e' hk1 hk2 hne
        have k9 : ∀ s, ofC pre gs s ≠ some 9999 := by
          intro s he
          have := (qJ9 he).2
          rw [qWs hcc] at this; cases this
        cases k with
        | inr x => cases k' with
          | inr x' => intro he; exact hne (by rw [Sum.inr.inj (Sum.inr.inj he)])
          | inl s =>
            intro he
            simp only [] at he
            split at he
            · cases he
            · cases ho : ofC pre gs s <;> rw [ho] at he <;> cases he
        | inl s => cases k' with
          | inr x =>
            intro he
            simp only [] at he
            split at he
            · cases he
            · cases ho : ofC pre gs s <;> rw [ho] at he <;> cases he
          | inl s' =>
            have hss : s ≠ s' := fun x => hne (by rw [x])
            intro he
            simp only [] at he
            by_cases h1 : o.dst = some s
            · by_cases h2 : o.dst = some s'
              · rw [h1] at h2; exact hss (Option.some.inj h2)
              · rw [if_pos h1, if_neg h2] at he
                cases ho : ofC pre gs s' with
                | none => rw [ho] at he; cases he
                | some k => rw [ho] at he; exact k9 s' (by rw [ho]; exact congrArg some (Sum.inl.inj he).symm)
            · by_cases h2 : o.dst = some s'
              · rw [if_neg h1, if_pos h2] at he
                cases ho : ofC pre gs s with
                | none => rw [ho] at he; cases he
                | some k => rw [ho] at he; exact k9 s (by rw [ho]; exact congrArg some (Sum.inl.inj he))
              · rw [if_neg h1, if_neg h2] at he
                cases ho : ofC pre gs s with
                | none => cases ho' : ofC pre gs s' with
                  | none => rw [ho, ho'] at he; exact hss (Sum.inl.inj (Sum.inr.inj he))
                  | some k' => rw [ho, ho'] at he; cases he
                | some k => cases ho' : ofC pre gs s' with
                  | none => rw [ho, ho'] at he; cases he
                  | some k' =>
                    rw [ho, ho'] at he
                    have := Sum.inl.inj he
                    subst this
                    have h1 := qQn hcc ho
                    have h2 := qQn hcc ho'
                    rw [h1] at h2; exact hss (Option.some.inj h2)
    · intro s
      unfold full
      rw [jTr, jTr]
      by_cases hds : o.dst = some s
      · have hg : has gs s = false := by rw [hds] at hdg; exact hdg
        rw [jLj hg]
        simp only []
        cases own with
        | none =>
          simp [qY3, lkU, hds, Nat.beq_refl]
        | some q =>
          obtain ⟨e, he, hq⟩ := hown
          simp only [qY3, hds, lkU, Nat.beq_refl, cond_true, if_pos, Option.isSome_some]
          exact ⟨e, he, by rw [jQc (hdn s hds)]; exact hq⟩
      · have ha : (a.put o.dst v).gt s = a.gt s := jBv hds
        have hrest : ∀ e, lkU (qY3 own o.dst) s = some e → False := by
          intro e he
          cases own with
          | none => cases he
          | some q => cases hd' : o.dst with
            | none => rw [hd'] at he; cases he
            | some d =>
              rw [hd'] at he
              simp only [qY3, lkU] at he
              cases hb : Nat.beq d s with
              | true => rw [jWp] at hb; subst hb; exact hds hd'
              | false => rw [hb] at he; cases he
        cases hof : ofC pre gs s with
        | some k =>
          have hfin : ∀ e, lkU (qY3 own o.dst) s = some e → False := hrest
          have h0 : lkU (full [] o.dst) s = none := by
            unfold full
            cases hd' : o.dst with
            | none => rfl
            | some d =>
              simp only [List.nil_append, lkU]
              cases hb : Nat.beq d s with
              | true => rw [jWp] at hb; subst hb; exact absurd hd' hds
              | false => rfl
          unfold full at h0
          rw [List.nil_append] at h0
          rcases upd_of (E := E') (L' := fun s => if o.dst = some s then (if own.isSome then E' 9999 else none) else match ofC pre gs s with | some k => E' k | none => L s) hn ha hkey hpost hcc k hof (by simp only [if_neg hds, hof]) with ⟨q, h1, h2⟩ | h1 | ⟨h1, h2⟩
          · rw [h1]; exact h2
          · rw [h1]; trivial
          · rw [h1]
            simp only []
            cases hr : lkU (qY3 own o.dst) s with
            | some e => exact (hfin e hr).elim
            | none =>
              simp only []
              rw [h0]
              exact .inr h2
        | none =>
          rw [jLj (has_of hcc hof)]
          simp only []
          cases hr : lkU (qY3 own o.dst) s with
          | some e => exact (hrest e hr).elim
          | none =>
            simp only []
            have : lkU (full [] o.dst) s = none := by
              unfold full
              cases hd' : o.dst with
              | none => rfl
              | some d =>
                simp only [List.nil_append, lkU]
                cases hb : Nat.beq d s with
                | true => rw [jWp] at hb; subst hb; exact absurd hd' hds
                | false => rfl
            unfold full at this
            rw [List.nil_append] at this
            rw [this]
            exact .inl (by simp only [if_neg hds, hof])
end Go.KB
namespace Go.KB
variable {P : Program} {o : Oper} {N : List (Nat × jJd)} {α β : Type}
theorem jP2.split {f : α → Value} {rv : Rep β} {h : H} : ∀ {es : List MapEntry} {l : List (α × β)} {e : MapEntry}, jP2 f rv h es l → e ∈ es → ∃ e1 e2 r1 p r2, es = e1 ++ e :: e2 ∧ l = r1 ++ p :: r2 ∧ e.key = f p.1 ∧ rv.val h e.val p.2 ∧ jP2 f rv h (e1 ++ e2) (r1 ++ r2)
 | [], _, _, _, he => by cases he
 | x :: es, [], _, hr, _ => hr.elim
 | x :: es, p :: l, e, ⟨hx, hr⟩, he => by
  rcases List.mem_cons.1 he with rfl | he
  ·exact ⟨[], es, [], p, l, rfl, rfl, hx.1, hx.2, hr⟩
  ·obtain ⟨e1, e2, r1, p', r2, h1, h2, h3, h4, h5⟩ := jP2.split hr he
   exact ⟨x :: e1, e2, p :: r1, p', r2, by rw [h1]; rfl, by rw [h2]; rfl, h3, h4, hx, h5⟩
section
variable {ρ : Option Nat} {κ : Type} {B : Base} {h0 : H} {Γ : Ctx} {Λ : Own} {F : κ → Option Ent} {n : Nat} {a : Act} {w : World} {Q : Exit → Act → World → Prop} {sm si : Value} {f : α → Value} {rv : Rep β} {l rem : List (α × β)}
theorem At.toVal {q : jZr} (s g : Nat) (hsg : Nat.beq s g = false) (hAt : At B h0 Γ Λ F n a w) (hs : Λ s = some q) :
  ∃ sv, At B h0 (fun k => bif Nat.beq s k then fIs sv else Γ k) (fun k => bif Nat.beq g k then some (atV q sv) else bif Nat.beq s k then none else Λ k) F n a w := by
 obtain ⟨h, L, hle, hst, hOw, hsat, hsz, hdf⟩ := hAt
 obtain ⟨e, hL, hq⟩ := hOw s q hs
 have hne : s ≠ g := fun x => by rw [jWp.2 x] at hsg; cases hsg
 refine ⟨a.gt s, h, mv L s g, hle, hst.mv s g, ?_, ?_, hsz, hdf⟩
 ·intro k q' hq'
  cases hk : Nat.beq g k with
  | true => simp only [hk, cond_true] at hq'; cases hq'; rw [jWp] at hk; subst hk; exact ⟨e, by simp [mv, hL], hq⟩
  | false =>
   simp only [hk, cond_false] at hq'
   cases hk2 : Nat.beq s k with
   | true => simp only [hk2, cond_true] at hq'; cases hq'
   | false =>
    simp only [hk2, cond_false] at hq'
    have n1 : k ≠ g := fun x => by rw [jWp.2 x.symm] at hk; cases hk
    have n2 : k ≠ s := fun x => by rw [jWp.2 x.symm] at hk2; cases hk2
    obtain ⟨e', h1, h2⟩ := hOw k q' hq'
    exact ⟨e', by simp [mv, n1, n2, h1], h2⟩
 ·intro k
  cases hk : Nat.beq s k with
  | true => simp only [hk, cond_true]; rw [jWp] at hk; subst hk; exact rfl
  | false => simp only [hk, cond_false]; exact hsat k
theorem At.swapE {q : jZr} (g : Nat) {q' : jZr} (hAt : At B h0 Γ Λ F n a w) (hs : Λ g = some q)
  (hq : ∀ v e, q v e → ∃ e', q' v e' ∧ (∀ c ∈ e'.claims, ∃ c0 ∈ e.claims, c0.1 = c.1 ∧ c0.2 ≤ c.2) ∧ ∀ h m, e.ok h m → e'.ok h m) : At B h0 Γ (fun k => bif Nat.beq g k then some q' else Λ k) F n a w := by
 obtain ⟨h, L, hle, hst, hOw, hsat, hsz, hdf⟩ := hAt
 obtain ⟨e, hL, hq1⟩ := hOw g q hs
 obtain ⟨e', hq2, hcl, hok⟩ := hq _ _ hq1
 refine ⟨h, _, hle, hst.swap hL hcl (hok _ _ (hst.own (k := Sum.inl g) hL).2), ?_, hsat, hsz, hdf⟩
 intro k q1 h1
 cases hk : Nat.beq g k with
 | true => simp only [hk, cond_true] at h1; cases h1; rw [jWp] at hk; subst hk; exact ⟨e', jHt, hq2⟩
 | false =>
  simp only [hk, cond_false] at h1
  obtain ⟨e1, h2, h3⟩ := hOw k q1 h1
  have n1 : k ≠ g := fun x => by rw [jWp.2 x.symm] at hk; cases hk
  exact ⟨e1, by simp [set1, n1, h2], h3⟩
end
end Go.KB
namespace Go.KB
variable {P : Program} {o : Oper} {N : List (Nat × jJd)} {α β : Type}
abbrev KE := List (Nat × Ent)
def lkE : KE → Nat → Option Ent
 | [], _ => none
 | (k, e) :: r, s => bif Nat.beq k s then some e else lkE r s
def jGu (l : KE) : Ent where
 claims := l.flatMap (fun p => p.2.claims)
 ok := fun h m => ∀ p ∈ l, p.2.ok h m
 mono := fun hl x p hp => p.2.mono hl (x p hp)
 frame := fun hm x p hp => p.2.frame (fun c hc => hm c (List.mem_flatMap.2 ⟨p, hp, hc⟩)) (x p hp)
def jSa (l : KE) : Prop := l.Pairwise fun p p' => Disj p.2.claims p'.2.claims
def jTt : KE → Bool
 | [] => true
 | (k, _) :: r => !((lkE r k).isSome) && jTt r
theorem jT2 : ∀ {l : KE} {k : Nat} {e : Ent}, lkE l k = some e → (k, e) ∈ l := by
 intro l
 induction l with
 | nil => intro k e h; cases h
 | cons x r ih =>
  obtain ⟨k0, e0⟩ := x
  intro k e h
  simp only [lkE] at h
  cases hk : Nat.beq k0 k with
  | true => rw [hk] at h; cases h; rw [jWp] at hk; subst hk; simp
  | false => rw [hk] at h; exact List.mem_cons_of_mem _ (ih h)
theorem jN3 : ∀ {l : KE} {k : Nat} {e : Ent}, (k, e) ∈ l → (lkE l k).isSome = true := by
 intro l
 induction l with
 | nil => intro k e h; cases h
 | cons x r ih =>
  obtain ⟨k0, e0⟩ := x
  intro k e h
  simp only [lkE]
  cases hk : Nat.beq k0 k with
  | true => rfl
  | false =>
   rcases List.mem_cons.1 h with h | h
   ·cases h; rw [Nat.beq_refl] at hk; cases hk
   ·exact ih h
theorem jSa.get {l : KE} (hd : jSa l) : ∀ {k k' : Nat} {e e' : Ent}, lkE l k = some e → lkE l k' = some e' → k ≠ k' → Disj e.claims e'.claims := by
 induction l with
 | nil => intro k k' e e' h; cases h
 | cons x r ih =>
  obtain ⟨k0, e0⟩ := x
  intro k k' e e' h h' hne
  obtain ⟨h1, h2⟩ := List.pairwise_cons.1 hd
  simp only [lkE] at h h'
  cases hk : Nat.beq k0 k with
  | true =>
   rw [hk] at h; cases h
   rw [jWp] at hk; subst hk
   have hk' : Nat.beq k0 k' = false := by rw [Bool.eq_false_iff, Ne, jWp]; exact hne
   rw [hk'] at h'
   exact h1 _ (jT2 h')
  | false =>
   rw [hk] at h
   cases hk' : Nat.beq k0 k' with
   | true =>
    rw [hk'] at h'; cases h'
    have := h1 _ (jT2 h)
    exact fun c hc c' hc' he => this c' hc' c hc he.symm
   | false => rw [hk'] at h'; exact ih h2 h h' hne
section
variable {κ : Type} {B : Base} {h : H} {L : Nat → Option Ent} {F : κ → Option Ent} {w : World}
theorem qJ4 (hst : St B h (Sum.elim L F) w) : ∀ {l : KE}, (∀ p ∈ l, L p.1 = some p.2) → jTt l = true → jSa l := by
 intro l
 induction l with
 | nil => intro _ _; exact List.Pairwise.nil
 | cons x r ih =>
  obtain ⟨k, e⟩ := x
  intro hL hn
  simp only [jTt, Bool.and_eq_true, Bool.not_eq_true'] at hn
  refine List.pairwise_cons.2 ⟨fun p hp => ?_, ih (fun p hp => hL p (List.mem_cons_of_mem _ hp)) hn.2⟩
  have hne : k ≠ p.1 := fun e' => by
   have := jN3 (l := r) (k := p.1) (e := p.2) hp
   rw [← e', hn.1] at this; cases this
  exact fun c hc c' hc' => hst.disj (k := .inl k) (k' := .inl p.1) (hL _ List.mem_cons_self) (hL _ (List.mem_cons_of_mem _ hp)) (fun he => hne (Sum.inl.inj he)) c hc c' hc'
theorem St.jGu (hst : St B h (Sum.elim L F) w) {l : KE} (g : Nat) (hL : ∀ p ∈ l, L p.1 = some p.2) : St B h (Sum.elim (fun k => if k = g then some (jGu l) else if (lkE l k).isSome then none else L k) F) w := by
  have key : ∀ k e, (if k = g then some (KB.jGu l) else if (lkE l k).isSome then none else L k) = some e → (k = g ∧ e = KB.jGu l) ∨ (k ≠ g ∧ (lkE l k) = none ∧ L k = some e) := by
    intro k e he
    split at he
    · rename_i h1; cases he; exact .inl ⟨h1, rfl⟩
    · rename_i h1
      split at he
      · cases he
      · rename_i h2
        refine .inr ⟨h1, ?_, he⟩
        cases hl : lkE l k with
        | none => rfl
        | some x => rw [hl] at h2; exact absurd rfl h2
  refine ⟨hst.low, hst.base, fun x => hst.ext x, ?_, ?_, hst.mark, fun x i y => hst.nf x i y⟩
  · intro k e he
    cases k with
    | inr x => exact hst.own (k := .inr x) he
    | inl k =>
      rcases key k e he with ⟨rfl, rfl⟩ | ⟨_, _, hk⟩
      · refine ⟨fun c hc => ?_, fun p hp => (hst.own (k := .inl p.1) (hL p hp)).2⟩
        obtain ⟨p, hp, hc⟩ := List.mem_flatMap.1 hc
        exact (hst.own (k := .inl p.1) (hL p hp)).1 c hc
      · exact hst.own (k := .inl k) hk
  · have one : ∀ (x : Nat ⊕ κ) e', Sum.elim (fun k => if k = g then some (KB.jGu l) else if (lkE l k).isSome then none else L k) F x = some e' → x ≠ .inl g → ∀ c ∈ (KB.jGu l).claims, ∀ c' ∈ e'.claims, c.1 ≠ c'.1 := by
      intro x e' he hx c hc c' hc'
      obtain ⟨p, hp, hc⟩ := List.mem_flatMap.1 hc
      cases x with
      | inr y => exact hst.disj (k := .inl p.1) (k' := .inr y) (hL p hp) he (fun h => by cases h) c hc c' hc'
      | inl k =>
        rcases key k e' he with ⟨rfl, _⟩ | ⟨_, h1, hk⟩
        · exact absurd rfl hx
        · have hne : p.1 ≠ k := fun e' => by have := jN3 (l := l) (k := p.1) (e := p.2) hp; rw [e', h1] at this; cases this
          exact hst.disj (k := .inl p.1) (k' := .inl k) (hL p hp) hk (fun h => hne (Sum.inl.inj h)) c hc c' hc'
    intro k k' e e' he he' hne c hc c' hc'
    by_cases h1 : k = .inl g
    · subst h1
      have : e = KB.jGu l := by
        rcases key g e he with ⟨_, h⟩ | ⟨h, _⟩
        · exact h
        · exact absurd rfl h
      subst this
      exact one k' e' he' (fun h => hne h.symm) c hc c' hc'
    · by_cases h2 : k' = .inl g
      · subst h2
        have : e' = KB.jGu l := by
          rcases key g e' he' with ⟨_, h⟩ | ⟨h, _⟩
          · exact h
          · exact absurd rfl h
        subst this
        exact fun h => one k e he h1 c' hc' c hc h.symm
      · have tr : ∀ (x : Nat ⊕ κ) e', Sum.elim (fun k => if k = g then some (KB.jGu l) else if (lkE l k).isSome then none else L k) F x = some e' → x ≠ .inl g → Sum.elim L F x = some e' := by
          intro x e' he hx
          cases x with
          | inr y => exact he
          | inl k =>
            rcases key k e' he with ⟨rfl, _⟩ | ⟨_, _, hk⟩
            · exact absurd rfl hx
            · exact hk
        exact hst.disj (tr k e he h1) (tr k' e' he' h2) hne c hc c' hc'
theorem St.splitK (hst : St B h (Sum.elim L F) w) {l : KE} {g : Nat} (hg : L g = some (KB.jGu l)) (hd : jSa l) : St B h (Sum.elim (fun k => match lkE l k with | some e => some e | none => if k = g then none else L k) F) w := by
 obtain ⟨hcl, hok⟩ := hst.own (k := .inl g) hg
 have key : ∀ k e, (match lkE l k with | some e => some e | none => if k = g then none else L k) = some e → lkE l k = some e ∨ (lkE l k = none ∧ k ≠ g ∧ L k = some e) := by
  intro k e he
  cases hl : lkE l k with
  | some e0 => rw [hl] at he; cases he; exact .inl rfl
  | none =>
   rw [hl] at he
   simp only [] at he
   split at he
   ·cases he
   ·rename_i h1; exact .inr ⟨rfl, h1, he⟩
 have cl : ∀ {k e c}, lkE l k = some e → c ∈ e.claims → c ∈ (KB.jGu l).claims := fun hk hc => List.mem_flatMap.2 ⟨_, jT2 hk, hc⟩
 refine ⟨hst.low, hst.base, fun x => hst.ext x, ?_, ?_, hst.mark, fun x i y => hst.nf x i y⟩
 ·intro k e he
  cases k with
  | inr x => exact hst.own (k := .inr x) he
  | inl k =>
   rcases key k e he with hk | ⟨_, _, hk⟩
   ·exact ⟨fun c hc => hcl c (cl hk hc), hok _ (jT2 hk)⟩
   ·exact hst.own (k := .inl k) hk
 ·intro k k' e e' he he' hne c hc c' hc'
  have out : ∀ (x : Nat ⊕ κ) e', Sum.elim (fun k => match lkE l k with | some e => some e | none => if k = g then none else L k) F x = some e' → (∃ k, x = .inl k ∧ lkE l k = some e') ∨ (x ≠ .inl g ∧ Sum.elim L F x = some e') := by
   intro x e' he
   cases x with
   | inr y => exact .inr ⟨fun h => (by cases h), he⟩
   | inl k =>
    rcases key k e' he with hk | ⟨_, h1, hk⟩
    ·exact .inl ⟨k, rfl, hk⟩
    ·exact .inr ⟨fun h => h1 (Sum.inl.inj h), hk⟩
  rcases out k e he with ⟨k1, rfl, h1⟩ | ⟨h1, h2⟩
  ·rcases out k' e' he' with ⟨k2, rfl, h3⟩ | ⟨h3, h4⟩
   ·exact hd.get h1 h3 (fun h => hne (by rw [h])) c hc c' hc'
   ·exact hst.disj (k := .inl g) hg h4 (fun h => h3 h.symm) c (cl h1 hc) c' hc'
  ·rcases out k' e' he' with ⟨k2, rfl, h3⟩ | ⟨h3, h4⟩
   ·exact hst.disj h2 (k' := .inl g) hg h1 c hc c' (cl h3 hc')
   ·exact hst.disj h2 h4 hne c hc c' hc'
end
def yE {X : Type} (YE : X → Ent → Prop) (x : X) : jZr := fun _ e => YE x e
theorem Gh.yE {X : Type} {YE : X → Ent → Prop} {x : X} : Gh (yE YE x) := fun _ _ _ h => h
def jZd (l : Nat) (r : Loop) : Ent where
 claims := [(l, 0)]
 ok := fun _ m => m l = some (.loop r)
 mono := fun _ x => x
 frame := fun hm x => by rw [hm (l, 0) (by simp)]; exact x
def jVj (D : Nat) : Ent where
 claims := [(D, 0)]
 ok := fun _ m => m D = some (.deferred (some []))
 mono := fun _ x => x
 frame := fun hm x => by rw [hm (D, 0) (by simp)]; exact x
def qXf (l : Nat) (r : Loop) : jZr := fun _ e => e = jZd l r
def jCj (D : Nat) : jZr := fun _ e => e = jVj D
def jF7 (r : Loop) : Loop := { r with state := .busy }
def mark (D : Nat) : Deferred := { target := .collected D, args := #[] }
def HasQ (Λ : Own) : List (Nat × jZr) → Prop
 | [] => True
 | (k, q) :: r => Λ k = some q ∧ HasQ Λ r
def GhL : List (Nat × jZr) → Prop
 | [] => True
 | (_, q) :: r => Gh q ∧ GhL r
def xOf (js : List Exit) : Option Nat → Exit
 | none => .normal
 | some k => js.getD k .normal
def cdOf : Exit → Option Code
 | .ret => some .ret
 | .exit id => some (.exit id)
 | _ => none
def qYt : List Exit → Bool
 | [] => true
 | e :: r => (cdOf e).isSome && qYt r
def yl {S ι : Type} (g : S → ι → Option (S × Option Nat)) (m : Nat) : S × Option Nat → ι → Option ((S × Option Nat) × Bool) := fun x i => match x.2 with
 | none => (match g x.1 i with
  | some (s', j) => (match j with | none => some ((s', none), true) | some k => bif Nat.blt k m then some ((s', some k), false) else none)
  | none => none)
 | some _ => none
section
variable {κ : Type} {B : Base} {h h0 : H} {L : Nat → Option Ent} {Γ : Ctx} {Λ : Own} {F : κ → Option Ent} {n : Nat} {a : Act} {w : World} {l D : Nat} {r : Loop}
theorem qQv (hst : St B h (Sum.elim L F) w) {k : Nat} (hL : L k = some (jZd l r)) (r' : Loop) : w.heap[l]? = some (.loop r) ∧ St B h (Sum.elim (set1 L k (jZd l r')) F) (w.putObj l (.loop r')) := by
 obtain ⟨hcl, hok⟩ := hst.own (k := Sum.inl k) hL
 have hl : w.heap[l]? = some (.loop r) := hok
 have hlt := (Array.getElem?_eq_some_iff.1 hl).1
 refine ⟨hl, ?_⟩
 have hno := fun o' => (hcl (l, 0) (by simp [jZd])).2.2 o' (Nat.zero_le _)
 refine hst.step (hnf := hst.nf_own (k := Sum.inl k) hL (by simp [jZd])) (Sum.inl k) (fun i => i = l) (fun i hi _ => ⟨_, hL, (l, 0), by simp [jZd], hi.symm⟩) (by simp) rfl rfl rfl (fun i _ hi => World.putObj_heap_other hi) (Hle.refl h) (fun _ _ _ _ => rfl) ?_ jKg ?_
 ·rintro i o' u (rfl | hi) hu
  ·rw [hno o'] at hu; cases hu
  ·rw [hst.fresh hi] at hu; cases hu
 ·intro e' he
  rw [jKh he]
  refine ⟨fun c hc => ?_, World.putObj_heap_same hlt⟩
  simp only [jZd, List.mem_singleton] at hc
  subst hc
  exact ⟨.inr ⟨_, hL, (l, 0), by simp [jZd], rfl⟩, by simpa using hlt, fun o' _ => hno o'⟩
theorem qJ6 {body : Code} {K : Exit → Act → World → Prop} (hAt : At B h0 Γ Λ F n a w) (h8 : Λ 4998 = some (qXf l r)) (hr : r.state = .ready)
  (hk : ∀ w, At B h0 Γ (fun k => bif Nat.beq 4998 k then some (qXf l (jF7 r)) else Λ k) F n a w → body.wpK (some l) P K a w) : ∃ w₂, (Instr.beginRound l).run P w = .ok () w₂ ∧ body.wpK (some l) P K a w₂ := by
 obtain ⟨h, L, hle, hst, hOw, hsat, hsz, hdf⟩ := hAt
 obtain ⟨e, hL, rfl⟩ := hOw 4998 _ h8
 obtain ⟨hl, hst'⟩ := qQv hst hL (jF7 r)
 refine ⟨_, run_beginRound hl hr, hk _ ⟨h, _, hle, hst', ?_, hsat, hsz, hdf⟩⟩
 intro k q hq
 cases hb : Nat.beq 4998 k with
 | true => simp only [hb, cond_true] at hq; cases hq; rw [jWp] at hb; subst hb; exact ⟨_, jHt, rfl⟩
 | false =>
  simp only [hb, cond_false] at hq
  have n1 : k ≠ 4998 := fun x => by rw [jWp.2 x.symm] at hb; cases hb
  obtain ⟨e1, h2, h3⟩ := hOw k q hq
  exact ⟨e1, by simp [set1, n1, h2], h3⟩
end
end Go.KB
namespace Go.KB
variable {P : Program}
def jG6 : List Nat → Bool
 | [] => true
 | k :: r => !(has r k) && jG6 r
def QOk : List (Nat × jZr) → KE → Prop
 | (k, q) :: r, (k', e) :: es => k' = k ∧ q undef e ∧ QOk r es
 | [], [] => True
 | _, _ => False
theorem jAb : ∀ {l : KE} {k : Nat}, has (l.map (·.1)) k = (lkE l k).isSome := by
 intro l
 induction l with
 | nil => intro k; rfl
 | cons x r ih =>
  obtain ⟨k0, e⟩ := x
  intro k
  simp only [List.map_cons, has, lkE]
  cases Nat.beq k0 k with
  | true => rfl
  | false => simpa using ih
theorem qWm : ∀ {l : KE}, jG6 (l.map (·.1)) = true → jTt l = true := by
 intro l
 induction l with
 | nil => intro _; rfl
 | cons x r ih =>
  obtain ⟨k0, e⟩ := x
  intro h
  simp only [List.map_cons, jG6, jAb, Bool.and_eq_true] at h
  simp only [jTt, Bool.and_eq_true]
  exact ⟨h.1, ih h.2⟩
theorem jSw {Λ : Own} {L : Nat → Option Ent} {a : Act} (hOw : jCx Λ L a) : ∀ {Qs : List (Nat × jZr)}, HasQ Λ Qs → GhL Qs → ∃ kes : KE, kes.map (·.1) = Qs.map (·.1) ∧ QOk Qs kes ∧ ∀ p ∈ kes, L p.1 = some p.2 := by
 intro Qs
 induction Qs with
 | nil => intro _ _; exact ⟨[], rfl, trivial, fun p hp => by cases hp⟩
 | cons x r ih =>
  obtain ⟨k, q⟩ := x
  intro h hg
  obtain ⟨e, hL, hq⟩ := hOw k q h.1
  obtain ⟨kes, h1, h2, h3⟩ := ih h.2 hg.2
  refine ⟨(k, e) :: kes, by simp [h1], ⟨rfl, hg.1 _ _ _ hq, h2⟩, fun p hp => ?_⟩
  rcases List.mem_cons.1 hp with rfl | hp
  ·exact hL
  ·exact h3 p hp
theorem qXl : ∀ {Qs : List (Nat × jZr)} {kes : KE}, QOk Qs kes → kes.map (·.1) = Qs.map (·.1) := by
 intro Qs
 induction Qs with
 | nil => intro kes h; cases kes with
  | nil => rfl
  | cons _ _ => exact h.elim
 | cons x r ih =>
  obtain ⟨k, q⟩ := x
  intro kes h
  cases kes with
  | nil => exact h.elim
  | cons y es => obtain ⟨k', e⟩ := y; obtain ⟨rfl, _, h3⟩ := h; simp [ih h3]
theorem qZ4 : ∀ {Qs : List (Nat × jZr)} {kes : KE}, QOk Qs kes → GhL Qs → ∀ {k q}, mkO Qs k = some q → ∃ e, lkE kes k = some e ∧ ∀ v, q v e := by
 intro Qs
 induction Qs with
 | nil => intro kes _ _ k q h; cases h
 | cons x r ih =>
  obtain ⟨k0, q0⟩ := x
  intro kes h hg k q hq
  cases kes with
  | nil => exact h.elim
  | cons y es =>
   obtain ⟨k', e⟩ := y
   obtain ⟨rfl, h2, h3⟩ := h
   simp only [mkO, lkO] at hq
   simp only [lkE]
   cases hb : Nat.beq k' k with
   | true => rw [hb] at hq; cases hq; exact ⟨e, rfl, fun v => hg.1 _ _ _ h2⟩
   | false => rw [hb] at hq; exact ih h3 hg.2 hq
def qX3 : List (Nat × jZr) → List Nat → List Po → List (Nat × jZr)
 | _ :: r, g :: gs, .to q :: ps => (g, q) :: qX3 r gs ps
 | (_, q) :: r, g :: gs, .keep :: ps => (g, q) :: qX3 r gs ps
 | _ :: r, _ :: gs, .gone :: ps => qX3 r gs ps
 | _, _, _ => []
theorem qY4 {E : Nat → Option Ent} {g : Nat → Value} : ∀ {pre : List (Nat × jZr)} {post : List Po} {gs : List Nat}, jL0 pre post E (plc g) → jUs [] [] pre post gs → jTw pre gs = true → ∀ {k q}, mkO (qX3 pre gs post) k = some q →
  ∃ e k', ofC pre gs k = some k' ∧ E k' = some e ∧ ∀ v, q v e := by
 intro pre
 induction pre with
 | nil => intro post gs _ hk _ k q h; cases post <;> cases gs <;> first | exact hk.elim | cases h
 | cons x r ih =>
  obtain ⟨k0, q0⟩ := x
  intro post gs hp hk hc k q hq
  cases post with
  | nil => cases gs <;> exact hk.elim
  | cons p ps => cases gs with
   | nil => exact hk.elim
   | cons g0 gs =>
    obtain ⟨h1, h2⟩ := hk
    simp only [jTw, Bool.and_eq_true, Bool.not_eq_true'] at hc
    have tail : mkO (qX3 r gs ps) k = some q → ∃ e k', ofC ((k0, q0) :: r) (g0 :: gs) k = some k' ∧ E k' = some e ∧ ∀ v, q v e := fun hq => by
     obtain ⟨e, k', h3, h4, h5⟩ := ih hp.2 h2 hc.2 hq
     have h6 := (qJ9 h3).1
     have : Nat.beq g0 k = false := by
      rw [Bool.eq_false_iff, Ne, jWp]; intro e; subst e; rw [h6] at hc; exact absurd hc.1.1.1 (by simp)
     exact ⟨e, k', by simp only [ofC, this, cond_false]; exact h3, h4, h5⟩
    have one : ∀ q' : jZr, Gh q' → (∃ e, E k0 = some e ∧ q' (plc g k0) e) → mkO ((g0, q') :: qX3 r gs ps) k = some q → ∃ e k', ofC ((k0, q0) :: r) (g0 :: gs) k = some k' ∧ E k' = some e ∧ ∀ v, q v e := by
     rintro q' hgh ⟨e, he, hqe⟩ hq
     simp only [mkO, lkO] at hq
     cases hb : Nat.beq g0 k with
     | false => rw [hb] at hq; exact tail hq
     | true =>
      rw [hb] at hq; cases hq
      exact ⟨e, k0, by simp only [ofC, hb, cond_true], he, fun v => hgh _ _ _ hqe⟩
    have hgh : Gh q0 ∧ ∀ q', p = .to q' → Gh q' := by
     rcases h1 with ⟨_, hg, hg'⟩ | ⟨_, x, hx, _⟩
     ·exact ⟨hg, hg'⟩
     ·simp at hx
    cases p with
    | gone => exact tail hq
    | to q' => exact one q' (hgh.2 q' rfl) hp.1 hq
    | keep => exact one q0 hgh.1 hp.1 hq
theorem qZm {l1 l2 : List (Nat × jZr)} {k : Nat} : mkO (l1 ++ l2) k = (match mkO l1 k with | some q => some q | none => mkO l2 k) := by
 induction l1 with
 | nil => rfl
 | cons x r ih =>
  obtain ⟨k0, q⟩ := x
  simp only [mkO, List.cons_append, lkO] at ih ⊢
  cases Nat.beq k0 k with
  | true => rfl
  | false => exact ih
theorem qW3 : ∀ {l : List (Nat × jZr)} {k : Nat} {q : jZr}, mkO l k = some q → has (l.map (·.1)) k = true := by
 intro l
 induction l with
 | nil => intro k q h; cases h
 | cons x r ih =>
  obtain ⟨k0, q0⟩ := x
  intro k q h
  simp only [mkO, lkO] at h
  simp only [List.map_cons, has, Bool.or_eq_true]
  cases hb : Nat.beq k0 k with
  | true => exact .inl rfl
  | false => rw [hb] at h; exact .inr (ih h)
theorem qK8 : ∀ {pre : List (Nat × jZr)} {gs : List Nat} {ps : List Po} {k : Nat}, has ((qX3 pre gs ps).map (·.1)) k = true → has gs k = true := by
 intro pre
 induction pre with
 | nil => intro gs ps k h; cases gs <;> cases ps <;> cases h
 | cons x r ih =>
  obtain ⟨k0, q0⟩ := x
  intro gs ps k h
  cases gs with
  | nil => cases ps <;> cases h
  | cons g gs => cases ps with
   | nil => cases h
   | cons p ps =>
    have two : ∀ q : jZr, has (((g, q) :: qX3 r gs ps).map (·.1)) k = true → has (g :: gs) k = true := by
     intro q h
     simp only [List.map_cons, has, Bool.or_eq_true] at h
     simp only [has, Bool.or_eq_true]
     exact h.imp id ih
    cases p with
    | gone => simp only [qX3] at h; simp only [has, ih h, Bool.or_true]
    | to q => exact two q h
    | keep => exact two q0 h
def qWb : List Nat → List jJd → List (Nat × jJd)
 | p :: ps, f :: fs => (p, f) :: qWb ps fs
 | _, _ => []
def qG6 : List (Nat × jJd) → Bool
 | [] => true
 | (_, f) :: r => f.dep.isNone && qG6 r
theorem jR3 : ∀ {l : List (Nat × jJd)} {s : Nat}, qG6 l = true → (mkG l s).dep = none := by
 intro l
 induction l with
 | nil => intro s _; rfl
 | cons x r ih =>
  obtain ⟨k, f⟩ := x
  intro s h
  simp only [qG6, Bool.and_eq_true] at h
  simp only [mkG, lkF]
  cases hb : Nat.beq k s with
  | true =>
   rw [cond_true]
   cases hd : f.dep with
   | none => rfl
   | some d => rw [hd] at h; cases h.1
  | false => exact ih h.2
theorem qWn {h : H} {Γl : List (Nat × jJd)} : ∀ {ps : List Nat} {A : List jJd} {vs : List Value} (tmps : Array Value), jG6 ps = true → (∀ p ∈ ps, p < tmps.size) → A.length = ps.length → vs.length = ps.length → jVf A = true → (∀ s, (mkG Γl s).p h undef (tmps.getD s undef)) → (∀ (j : Nat) (g : jJd) (v : Value), A[j]? = some g → vs[j]? = some v → g.p h undef v) →
  ∀ s, (mkG (qWb ps A ++ Γl) s).p h undef (((ps.zip vs).foldl (fun t (p : Nat × Value) => t.setIfInBounds p.1 p.2) tmps).getD s undef) := by
 intro ps
 induction ps with
 | nil => intro A vs tmps _ _ hA _ _ hG _ s; cases A with
  | nil => exact hG s
  | cons _ _ => simp at hA
 | cons p ps ih =>
  intro A vs tmps hn hlt hA hv hd hG hargs s
  cases A with
  | nil => simp at hA
  | cons f A => cases vs with
   | nil => simp at hv
   | cons v vs =>
    simp only [jG6, Bool.and_eq_true, Bool.not_eq_true'] at hn
    simp only [jVf, Bool.and_eq_true] at hd
    -- the others first: p keeps its value
    have keep : ∀ (ps : List Nat) (vs : List Value) (t : Array Value), has ps p = false → ((ps.zip vs).foldl (fun t (p : Nat × Value) => t.setIfInBounds p.1 p.2) t).getD p undef = t.getD p undef := by
     intro ps
     induction ps with
     | nil => intro vs t _; rfl
     | cons p' ps ih' =>
      intro vs t hh
      cases vs with
      | nil => rfl
      | cons v' vs =>
       simp only [has, Bool.or_eq_false_iff] at hh
       simp only [List.zip_cons_cons, List.foldl_cons]
       rw [ih' vs _ hh.2]
       have : p' ≠ p := fun e => by rw [jWp.2 e] at hh; cases hh.1
       simp [Array.getD_eq_getD_getElem?, Array.getElem?_setIfInBounds_ne this]
    simp only [List.zip_cons_cons, List.foldl_cons, qWb, List.cons_append]
    show (bif Nat.beq p s then f else mkG (qWb ps A ++ Γl) s).p h undef _
    cases hb : Nat.beq p s with
    | true =>
     rw [jWp] at hb; subst hb
     rw [keep ps vs _ hn.1]
     have hp := hlt p (by simp)
     have : (tmps.setIfInBounds p v).getD p undef = v := by simp [Array.getD_eq_getD_getElem?, hp]
     rw [this]
     exact hargs 0 f v rfl rfl
    | false =>
     rw [cond_false]
     -- facts on p itself are not asked for any more
     have hps : p ≠ s := fun e => by rw [jWp.2 e] at hb; cases hb
     have key : ∀ (ps : List Nat) (A : List jJd) (vs : List Value) (t t' : Array Value), t.size = t'.size → (∀ k, k ≠ p → t.getD k undef = t'.getD k undef) → ∀ k, k ≠ p → ((ps.zip vs).foldl (fun t (q : Nat × Value) => t.setIfInBounds q.1 q.2) t).getD k undef = ((ps.zip vs).foldl (fun t (q : Nat × Value) => t.setIfInBounds q.1 q.2) t').getD k undef := by
      intro ps
      induction ps with
      | nil => intro _ vs t t' _ h k hk; exact h k hk
      | cons p' ps ih' =>
       intro A vs t t' hs h k hk
       cases vs with
       | nil => exact h k hk
       | cons v' vs =>
        simp only [List.zip_cons_cons, List.foldl_cons]
        refine ih' A vs _ _ (by simp [hs]) (fun m hm => ?_) k hk
        by_cases hpm : p' = m
        ·subst hpm
         by_cases hlt : p' < t.size
         ·simp [Array.getD_eq_getD_getElem?, hlt, hs ▸ hlt]
         ·simp [Array.getD_eq_getD_getElem?, hlt, show ¬p' < t'.size by omega]
        ·have := h m hm
         simpa [Array.getD_eq_getD_getElem?, Array.getElem?_setIfInBounds_ne hpm] using this
     rw [key ps A vs (tmps.setIfInBounds p v) tmps (by simp) (fun k hk => by simp [Array.getD_eq_getD_getElem?, Array.getElem?_setIfInBounds_ne (Ne.symm hk)]) s (Ne.symm hps)]
     exact ih tmps hn.2 (fun q hq => hlt q (List.mem_cons_of_mem _ hq)) (by simpa using hA) (by simpa using hv) hd.2 hG (fun j g u hg hu => hargs (j + 1) g u hg hu) s
theorem qXt {ps : List Nat} : ∀ {vs : List Value} {t : Array Value}, ((ps.zip vs).foldl (fun t (p : Nat × Value) => t.setIfInBounds p.1 p.2) t).size = t.size := by
 induction ps with
 | nil => intro vs t; rfl
 | cons p ps ih => intro vs t; cases vs with
  | nil => rfl
  | cons v vs => simp only [List.zip_cons_cons, List.foldl_cons]; rw [ih]; simp
theorem jAu : ∀ {js : List Exit} {k : Nat}, qYt js = true → k < js.length → ∃ c, cdOf (js.getD k .normal) = some c := by
 intro js
 induction js with
 | nil => intro k _ h; cases h
 | cons e r ih =>
  intro k h hk
  simp only [qYt, Bool.and_eq_true] at h
  cases k with
  | zero => exact Option.isSome_iff_exists.1 h.1
  | succ k => simpa using ih h.2 (by simpa using hk)
theorem qGs {e : Exit} {c : Code} {Q : Exit → Act → World → Prop} {a : Act} {w : World} (hc : cdOf e = some c) (hq : Q e a w) : c.wpIn (rdF none) 0 P Q a w := by
 cases e <;> cases hc
 ·exact wpIn_exit hq
 ·exact wpIn_ret hq
section
variable {κ : Type} {B : Base} {h0 : H} {Λ : Own} {F : κ → Option Ent} {n : Nat} {a : Act} {w : World}
end
end Go.KB
