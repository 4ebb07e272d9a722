/- Variables whose fields are rows that are appended to. Fields of values; values whose fields are nil, and variables that take them. Maps that are owned: made, looked into, written. Pointers that are only read, nil among them; texts as rows of bytes. Functions that take a row over and hand a row back. Rows that grow from nothing: cap, cuts and appends of zeros at nil. Arrays: slices of arrays that are not written any more, elements of arrays. No condition. -/
import Derived.Test.YtmhjgjflmemjmaaKZb
import Derived.MapKept
import Derived.Laws.Pointers
import Derived.Lib.ConvBytes
import Derived.Lib.AppendZeros
namespace Go.KB
variable {P : Program} {o : Oper} {N : List (Nat × Fact)} {f : Fact} {α β : Type}
inductive Wr where
 | slot
 | val (sv : Value)
def atV (q : OwnP) (sv : Value) : OwnP := fun _ e => q sv e
def Wr.v (W : Wr) (a : Act) (g : Nat) : Value := match W with | .slot => a.gt g | .val sv => sv
def OpdW (N : List (Nat × Fact)) (x : Operand) (W : Wr) (g : Nat) : Prop := ∀ h a, NAll N h a → a.eval x = W.v a g
theorem OpdW.slot {x : Operand} {g : Nat} (hx : OpdOk N x (fCp g)) : OpdW N x .slot g := fun h a n => hx h a n
theorem OpdW.val {x : Operand} {g : Nat} {sv : Value} (hx : OpdOk N x (fIs sv)) : OpdW N x (.val sv) g := fun h a n => hx h a n
def OffW (N : List (Nat × Fact)) (x : Operand) (W : Wr) (s off : Nat) : Prop := ∀ h a, NAll N h a → ∃ b, W.v a s = .pointer (some ⟨b, 0, none⟩) ∧ a.eval x = .pointer (some ⟨b, off, none⟩)
def fOffV (sv : Value) (off : Nat) : Fact := ⟨none, fun _ _ v => ∃ b, sv = .pointer (some ⟨b, 0, none⟩) ∧ v = .pointer (some ⟨b, off, none⟩), fun _ x => x⟩
theorem OffW.slot {x : Operand} {s off : Nat} (hx : OpdOk N x (fOff s off)) : OffW N x .slot s off := fun h a n => hx h a n
theorem OffW.val {x : Operand} {s off : Nat} {sv : Value} (hx : OpdOk N x (fOffV sv off)) : OffW N x (.val sv) s off := fun h a n => hx h a n
structure TipS where
 off : Nat
 E : TypeId
 sz : Nat
def TipsAre : List TipS → List (Nat × Value × Ent) → Prop
 | [], [] => True
 | t :: ts, u :: us => (u.1 = t.off ∧ tipE t.E t.sz u.2.1 u.2.2) ∧ TipsAre ts us
 | _, _ => False
theorem TipsAre.mid {t : TipS} {l2 : List TipS} : ∀ {l1 : List TipS} {us : List (Nat × Value × Ent)}, TipsAre (l1 ++ t :: l2) us →
  ∃ us1 u us2, us = us1 ++ u :: us2 ∧ u.1 = t.off ∧ tipE t.E t.sz u.2.1 u.2.2 ∧ TipsAre l1 us1 ∧ TipsAre l2 us2 := by
 intro l1
 induction l1 with
 | nil =>
  intro us h
  cases us with
  | nil => exact h.elim
  | cons u us => exact ⟨[], u, us, rfl, h.1.1, h.1.2, trivial, h.2⟩
 | cons t1 l1 ih =>
  intro us h
  cases us with
  | nil => exact h.elim
  | cons u0 us =>
   obtain ⟨us1, u, us2, rfl, h1, h2, h3, h4⟩ := ih h.2
   exact ⟨u0 :: us1, u, us2, rfl, h1, h2, ⟨h.1, h3⟩, h4⟩
theorem TipsAre.app {l2 : List TipS} {us2 : List (Nat × Value × Ent)} (h2 : TipsAre l2 us2) : ∀ {l1 : List TipS} {us1 : List (Nat × Value × Ent)}, TipsAre l1 us1 → TipsAre (l1 ++ l2) (us1 ++ us2) := by
 intro l1
 induction l1 with
 | nil =>
  intro us1 h
  cases us1 with
  | nil => exact h2
  | cons u us => exact h.elim
 | cons t1 l1 ih =>
  intro us1 h
  cases us1 with
  | nil => exact h.elim
  | cons u0 us => exact ⟨h.1, ih h.2⟩
theorem TipsAre.cut {l2 : List TipS} : ∀ {l1 : List TipS} {us : List (Nat × Value × Ent)}, TipsAre (l1 ++ l2) us → ∃ us1 us2, us = us1 ++ us2 ∧ TipsAre l1 us1 ∧ TipsAre l2 us2 := by
 intro l1
 induction l1 with
 | nil => intro us h; exact ⟨[], us, rfl, trivial, h⟩
 | cons t1 l1 ih =>
  intro us h
  cases us with
  | nil => exact h.elim
  | cons u0 us =>
   obtain ⟨us1, us2, rfl, h3, h4⟩ := ih h.2
   exact ⟨u0 :: us1, us2, rfl, ⟨h.1, h3⟩, h4⟩
def Disj (a b : List (Nat × Nat)) : Prop := ∀ c ∈ a, ∀ c' ∈ b, c.1 ≠ c'.1
def BoxOk (b : Nat) (us : List (Nat × Value × Ent)) : Prop := (us.map (fun u => u.2.2.claims)).Pairwise Disj ∧ ∀ u ∈ us, ∀ c ∈ u.2.2.claims, c.1 ≠ b
def nilV : Value := .slice none 0 0
def TipsNil (cs : List Value) : List TipS → Prop
 | [] => True
 | t :: ts => cs[t.off]? = some nilV ∧ TipsNil cs ts
def nilUs (ts : List TipS) : List (Nat × Value × Ent) := ts.map (fun t => (t.off, nilV, nilEnt))
theorem TipsNil.at {cs : List Value} : ∀ {ts : List TipS}, TipsNil cs ts → ∀ u ∈ nilUs ts, cs[u.1]? = some u.2.1 := by
 intro ts
 induction ts with
 | nil => intro _ u hu; cases hu
 | cons t ts ih =>
  intro h u hu
  rcases List.mem_cons.1 hu with rfl | hu
  ·exact h.1
  ·exact ih h.2 u hu
def apartB (off sz : Nat) (ts : List TipS) : Bool := ts.all (fun t => Nat.blt t.off off || Nat.ble (off + sz) t.off)
theorem apartB_spec {off sz : Nat} {ts : List TipS} (h : apartB off sz ts = true) : ∀ t ∈ ts, t.off < off ∨ off + sz ≤ t.off := by
 intro t ht
 have := List.all_eq_true.1 h t ht
 simpa [Nat.blt_eq] using this
theorem get_apart {p c c' q : List Value} {off sz i : Nat} (hp : p.length = off) (hc : c.length = sz) (hc' : c'.length = sz) (h : i < off ∨ off + sz ≤ i) : (p ++ c' ++ q)[i]? = (p ++ c ++ q)[i]? := by
  rcases h with h | h
  · rw [List.append_assoc, List.append_assoc, List.getElem?_append_left (by omega), List.getElem?_append_left (by omega)]
  · rw [List.getElem?_append_right (by simp; omega), List.getElem?_append_right (by simp; omega)]
    congr 1; simp; omega
theorem BoxOk.sub {b : Nat} {us us' : List (Nat × Value × Ent)} (h : us'.Sublist us) (hb : BoxOk b us) : BoxOk b us' :=
 ⟨hb.1.sublist (h.map _), fun u hu => hb.2 u (h.subset hu)⟩
theorem BoxOk.nil {b off : Nat} {us1 us2 : List (Nat × Value × Ent)} (h : BoxOk b (us1 ++ us2)) : BoxOk b (us1 ++ (off, nilV, nilEnt) :: us2) := by
 obtain ⟨h1, h2⟩ := h
 constructor
 ·rw [List.map_append, List.pairwise_append] at h1 ⊢
  obtain ⟨k1, k2, k3⟩ := h1
  refine ⟨k1, List.Pairwise.cons (fun l _ c hc => by cases hc) k2, fun x hx y hy => ?_⟩
  rcases List.mem_cons.1 hy with rfl | hy
  ·intro c _ c' hc'; cases hc'
  ·exact k3 x hx y hy
 ·intro u hu c hc
  rcases List.mem_append.1 hu with hu | hu
  ·exact h2 u (List.mem_append_left _ hu) c hc
  ·rcases List.mem_cons.1 hu with rfl | hu
   ·cases hc
   ·exact h2 u (List.mem_append_right _ hu) c hc
end Go.KB
namespace Go.KB
variable {P : Program} {o : Oper} {N : List (Nat × Fact)} {f : Fact} {α β : Type}
def fieldAtB (P : Program) (T : TypeId) (i : Nat) : Option (TypeId × Nat) :=
 match P.underlying T with
 | some (.struct fs) => match fs[i]? with
  | some g => some (g.type, g.offset)
  | none => none
 | _ => none
theorem run_part {T' : TypeId} {q : Rep β} (t : TyOk P T' q) {h : H} {p c r : List Value} {y : β} (hc : q.rel h c y) (w : World) : (part T' (p ++ c ++ r).toArray p.length).run P w = .ok (pack q.agg c) w := by
 have hl := q.len hc
 unfold part
 cases ha : q.agg with
 | true =>
  simp only [Sem.run_bind, t.agg, ha, Result.andThen_ok, if_true, t.size, Sem.run_pure, pack, cond_true]
  congr 2
  simp only [List.extract_toArray, List.extract_eq_take_drop]
  congr 1
  rw [List.append_assoc, List.drop_left' rfl, show p.length + q.sz - p.length = c.length by omega, List.take_left' rfl]
 | false =>
  rw [q.one ha] at hl
  match c, hl with
  | [v], _ =>
   have : (p ++ [v] ++ r).toArray[p.length]? = some v := by simp
   simp only [Sem.run_bind, t.agg, ha, Result.andThen_ok, Bool.false_eq_true, if_false, this, Sem.run_pure, pack, cond_false]
theorem TipsNil.apart {p c c' q : List Value} {off sz : Nat} (hp : p.length = off) (hc : c.length = sz) (hc' : c'.length = sz) : ∀ {ts : List TipS}, apartB off sz ts = true → TipsNil (p ++ c ++ q) ts → TipsNil (p ++ c' ++ q) ts := by
 intro ts
 induction ts with
 | nil => intro _ _; trivial
 | cons t ts ih =>
  intro ha hn
  have h1 := apartB_spec ha t List.mem_cons_self
  refine ⟨by rw [get_apart hp hc hc' h1]; exact hn.1, ih ?_ hn.2⟩
  unfold apartB at ha ⊢
  rw [List.all_cons, Bool.and_eq_true] at ha
  exact ha.2
def FillN (P : Program) (N : List (Nat × Fact)) (place : Nat → Option (Nat × Nat)) {α : Type} (r : Rep α) (ts : List TipS) : List (Nat × Operand) → α → α → Prop
 | [], x, y => x = y
 | (i, o) :: rest, x, y => ∃ (β : Type) (s : Rep β) (off : Nat) (get : α → β) (set : α → β → α) (z : β), Lens r s off get set ∧ place i = some (off, s.sz) ∧ apartB off s.sz ts = true ∧ OpdOk N o (fV s z) ∧ FillN P N place r ts rest (set x z) y
theorem FillN.run {place : Nat → Option (Nat × Nat)} {r : Rep α} {ts : List TipS} {h : H} {a : Act} (n : NAll N h a) : ∀ {parts : List (Nat × Operand)} {x y : α} {cs : List Value}, FillN P N place r ts parts x y → r.rel h cs x → TipsNil cs ts →
  ∃ cs', Instr.fill place cs.toArray (parts.map fun q => (q.1, a.eval q.2)) = some cs'.toArray ∧ r.rel h cs' y ∧ TipsNil cs' ts := by
 intro parts
 induction parts with
 | nil => intro x y cs k hr ht; rw [show x = y from k] at hr; exact ⟨cs, rfl, hr, ht⟩
 | cons q rest ih =>
  obtain ⟨i, op⟩ := q
  rintro x y cs ⟨β, s, off, get, set, z, l, hp, ha, ho, k⟩ hr ht
  obtain ⟨p, c, q, rfl, hpl, hc, hset⟩ := l h cs x hr
  obtain ⟨c', hc', hv⟩ := ho h a n
  simp only [List.map_cons]
  rw [fill_step hc' hv hp hpl (s.len hc)]
  exact ih k (hset h c' z (Hle.refl h) hc') (ht.apart hpl (s.len hc) (s.len hc') ha)
end Go.KB
namespace Go.KB
variable {P : Program} {o : Oper} {N : List (Nat × Fact)} {α β : Type}
section
variable [DecidableEq α]
structure KeyOk (P : Program) (K : TypeId) (rk : Rep α) (f : α → Value) : Prop where
 is : ∀ {h u x}, rk.val h u x → u = f x
 chk : ∀ (e : Bool) (w : World) (x : α), (Instr.checkKey e 10000 K (f x)).run P w = .ok () w
 now : ∃ d, P.underlying K = some d ∧ ∀ x y, Instr.sameNow d (f x) (f y) = some (decide (x = y))
 bits : ∀ x, Instr.sameBits 10000 (f x) (f x) = true
 val : ∀ h x, rk.val h (f x) x
def kStr (s : Str) : Value := .string ⟨s.toArray⟩
theorem KeyOk.str {K : TypeId} (hK : P.underlying K = some .string) : KeyOk P K Rep.str kStr where
 is := fun e => val_str.1 e
 chk := fun e w x => MapKept.run_checkKey hK (by trivial) e 9999
 now := ⟨_, hK, fun x y => by
  simp only [Instr.sameNow, kStr]
  congr 1
  rw [Bool.eq_iff_iff, MapKept.bytes_beq]
  simp⟩
 bits := fun x => (MapKept.bytes_beq _ _).2 rfl
 val := fun _ _ => val_str.2 rfl
def kInt (k : IntKind) (n : Int) : Value := .int k n
theorem KeyOk.int {K : TypeId} {k : IntKind} (hK : P.underlying K = some (.int k)) : KeyOk P K (Rep.int k) (kInt k) where
 is := fun e => val_int.1 e
 chk := fun e w x => MapKept.run_checkKey hK (by trivial) e 9999
 now := ⟨_, hK, fun x y => by
  simp only [Instr.sameNow, kInt, if_true]
  congr 1⟩
 bits := fun x => by simp [Instr.sameBits, kInt]
 val := fun _ _ => val_int.2 rfl
end
def MRel (f : α → Value) (rv : Rep β) (h : H) : List MapEntry → List (α × β) → Prop
 | [], [] => True
 | e :: es, p :: l => (e.key = f p.1 ∧ rv.val h e.val p.2) ∧ MRel f rv h es l
 | _, _ => False
theorem MRel.mono {f : α → Value} {rv : Rep β} {h h' : H} (hl : Hle h h') : ∀ {es : List MapEntry} {l : List (α × β)}, MRel f rv h es l → MRel f rv h' es l
 | [], [], _ => trivial
 | _ :: _, _ :: _, ⟨⟨a, b⟩, c⟩ => ⟨⟨a, rv.val_mono hl b⟩, MRel.mono hl c⟩
def BornOk (es : List MapEntry) (c : Nat) : Prop := (es.map (·.born)).Nodup ∧ ∀ e ∈ es, e.born < c
theorem BornOk.eraseIdx {es : List MapEntry} {c i : Nat} (h : BornOk es c) : BornOk (es.eraseIdx i) c :=
 ⟨(List.Sublist.map _ (List.eraseIdx_sublist es i)).nodup h.1, fun e he => h.2 e ((List.eraseIdx_sublist es i).subset he)⟩
section
variable [DecidableEq α]
end
section
variable [DecidableEq α]
end
end Go.KB
namespace Go.KB
variable {P : Program} {o : Oper} {N : List (Nat × Fact)} {α β : Type}
end Go.KB
namespace Go.KB
variable {P : Program} {o : Oper} {N : List (Nat × Fact)} {α β : Type}
def FnOkX (P : Program) (f : FuncId) (args : List Fact) (i : Nat) (q q' : OwnP) (post : Fact) : Prop :=
 ∀ (κ : Type) (B : Base) (L : κ → Option Ent) (h : H) (w : World) (vs : List Value) (x : Ent) (v : Value), St B h (Sum.elim (fun _ : Unit => some x) L) w → args.length = vs.length → vs[i]? = some v → q v x →
  (∀ (j : Nat) (g : Fact) (u : Value), args[j]? = some g → vs[j]? = some u → g.p h undef u) →
  Calls P f vs.toArray w (fun e w' => ∃ u h' x', e = .returned u ∧ Hle h h' ∧ St B h' (Sum.elim (fun _ : Unit => some x') L) w' ∧ post.p h' undef u ∧ q' u x')
theorem fn_enterX {n : Nat} {f : FuncId} {fn : Func} {c : Code} {args : List Fact} {i : Nat} {q q' : OwnP} {post : Fact} (hf : P.funcs[f]? = some fn) (hb : fn.body = some c) (hn : fn.ntmps = n) (hchk : (Nat.ble args.length n && depNone args) = true)
  (hwp : ∀ (κ : Type) (B : Base) (h0 : H) (F : κ → Option Ent) (a : Act) (w : World), At B h0 (mkG (argG 0 args)) (mkO [(i, q)]) F n a w → c.wpK none P (RetPostO P fn B h0 F q' post) a w) : FnOkX P f args i q q' post := by
 intro κ B L h w vs x v hst hl hvi hq hargs
 rw [Bool.and_eq_true, Nat.ble_eq] at hchk
 obtain ⟨hlen, hdp⟩ := hchk
 have hdep := depNone_spec hdp
 have hget : ∀ (j : Nat) u, vs[j]? = some u → Act.gt { tmps := vs.toArray ++ Array.replicate (fn.ntmps - vs.toArray.size) undef, defers := [] } j = u := by
  intro j u hu
  have hj := (List.getElem?_eq_some_iff.1 hu).1
  simp only [Act.gt, Array.getD_eq_getD_getElem?]
  rw [Array.getElem?_append_left (by simpa using hj)]
  simp [hu]
 refine calls_of_wpK rfl hf hb (hwp _ B.e h L _ w ⟨h, _, Hle.refl h, (hst.enter i).toE, ?_, ?_, ?_, rfl⟩) (fun _ _ ⟨v, h', x, he, hl, hs, hp⟩ => ⟨v, h', x, he, hl, hs.ofE, hp⟩)
 ·intro s q1 hs
  simp only [mkO, lkO] at hs
  cases hk : Nat.beq i s with
  | true =>
   rw [hk] at hs; cases hs
   rw [nbeq] at hk; subst hk
   exact ⟨x, by simp, by rw [hget _ _ hvi]; exact hq⟩
  | false => rw [hk] at hs; cases hs
 ·intro s
  rcases argG_spec args 0 s with h1 | ⟨j, g, h1, h2, h3⟩
  ·show (lkF (argG 0 args) s).at _ _ _; rw [h1]; exact trivial
  ·show (lkF (argG 0 args) s).at _ _ _; rw [h3]
   have hj := (List.getElem?_eq_some_iff.1 h1).1
   have hv : vs[j]? = some vs[j] := List.getElem?_eq_getElem (by omega)
   have := hargs j g _ h1 hv
   unfold Fact.at Fact.dv
   rw [hdep g (List.mem_of_getElem? h1), h2, Nat.zero_add, hget _ _ hv]
   exact this
 ·simp; omega
theorem ok_callXQ {s d i : Nat} {q q' Q : OwnP} {f : FuncId} {fn : Func} {args : List Fact} {post : Fact} {xs : Array Operand} {ts : Array TypeId} {y : Operand}
    (hc : FnOkX P f args i q q' post) (hf : P.funcs[f]? = some fn) (hbd : isBody fn = true) (hd : depNone (post :: args) = true) (hsd : Nat.beq s d = false) (hdst : o.dst = some d)
    (ho : o.op = .call { callee := .value (.func f), args := xs, argTypes := ts }) (hy : xs.toList[i]? = some y) (hyx : ∀ h a e, NAll N h a → Q (a.gt s) e → q (a.eval y) e) (hargs : ArgsOk N args xs.toList) : OpOk P o N [(s, Q)] post [(s, none), (d, some q')] := by
  intro κ B F L h a w hst hn hk hdn next Q hnext _
  obtain ⟨e, hL, hq⟩ := hk.1
  have hL : L s = some e := hL
  have hq : q (a.eval y) e := hyx h a e hn hq
  simp only [isBody, Bool.and_eq_true, Bool.not_eq_true'] at hbd
  have hbody : fn.body ≠ none := by
    intro hx; rw [hx] at hbd; cases hbd.1
  have hname : fn.name ≠ "runtime.NumGoroutine" := by simpa using hbd.2
  have hdp := depNone_spec hd
  have hne : s ≠ d := fun x => by rw [nbeq.2 x] at hsd; cases hsd
  obtain ⟨hlen, hall⟩ := hargs.spec
  unfold Oper.wpK
  have : (execOp a.eval o).run P w = .ok (.enter f (xs.toList.map a.eval).toArray) w := by
    have e : (xs.toList.map a.eval).toArray = xs.map a.eval := by apply Array.ext'; simp
    rw [e]
    simp [execOp, ho, resolve, Act.eval, Deferred.ofValue, invoke, callFunc, hf, hname, hbody]
  rw [this, upK_enter]
  have hst1 : St B h (Sum.elim (set1 L s e) F) w := by rw [set1_self hL]; exact hst
  refine (hc _ B _ h w (xs.toList.map a.eval) e (a.eval y) hst1.out (by rw [List.length_map]; exact hlen) (by rw [List.getElem?_map, hy]; rfl) hq ?_).mono ?_
  · intro j g v hg hv
    rw [List.getElem?_map] at hv
    cases hx : xs.toList[j]? with
    | none => rw [hx] at hv; cases hv
    | some x =>
      rw [hx] at hv; cases hv
      have := hall j g x hg hx h a hn
      unfold Fact.dv at this
      rw [hdp g (List.mem_cons_of_mem _ (List.mem_of_getElem? hg))] at this
      exact this
  · rintro e' w' ⟨v, h', x', rfl, hl, hst', hp, hq'⟩
    refine hnext v h' w' (set1 (fun k => if k = s then none else L k) d x') hl ?_ ?_ ?_
    · unfold Fact.dv
      rw [hdp post List.mem_cons_self]
      exact hp
    · generalize (fun k => if k = s then none else L k) = L0 at hst'
      refine hst'.reind (fun k => match k with | .inl k => if k = d then .inl () else .inr (.inl k) | .inr k => .inr (.inr k)) ?_ ?_
      · intro k e hk
        cases k with
        | inr k => exact hk
        | inl k =>
          by_cases hkd : k = d
          · subst hkd; simp [set1] at hk; simp [hk]
          · simp [set1, hkd] at hk; simp [hkd, hk]
      · intro k k' e1 e2 h1 h2 hne
        cases k with
        | inr k => cases k' with
          | inr k' => intro he; exact hne (by rw [Sum.inr.inj (Sum.inr.inj he)])
          | inl k' => intro he; simp only [] at he; split at he <;> cases he
        | inl k => cases k' with
          | inr k' => intro he; simp only [] at he; split at he <;> cases he
          | inl k' =>
            have hne' : k ≠ k' := fun x => hne (by rw [x])
            simp only []
            intro he
            split at he <;> split at he
            · rename_i h3 h4; exact hne' (h3.trans h4.symm)
            · cases he
            · cases he
            · exact hne' (Sum.inl.inj (Sum.inr.inj he))
    · rw [hdst]
      intro k
      have hsd' : Nat.beq s d = false := hsd
      by_cases hk : k = d
      · subst hk
        have : lkU (full [(s, none), (k, some q')] (some k)) k = some (some q') := by simp [full, lkU, hsd', Nat.beq_refl]
        rw [this]; exact ⟨x', by simp [set1], by rw [gt_put_same (hdn k hdst)]; exact hq'⟩
      · by_cases hks : k = s
        · subst hks
          have : lkU (full [(k, none), (d, some q')] (some d)) k = some none := by simp [full, lkU, Nat.beq_refl]
          rw [this]; trivial
        · have h1 : Nat.beq s k = false := by rw [Bool.eq_false_iff, Ne, nbeq]; exact fun x => hks x.symm
          have h2 : Nat.beq d k = false := by rw [Bool.eq_false_iff, Ne, nbeq]; exact fun x => hk x.symm
          have : lkU (full [(s, none), (d, some q')] (some d)) k = none := by simp [full, lkU, h1, h2]
          rw [this]; simp [set1, hk, hks]
theorem ok_callX {s d i : Nat} {q q' : OwnP} {f : FuncId} {fn : Func} {args : List Fact} {post : Fact} {xs : Array Operand} {ts : Array TypeId} {y : Operand}
  (hc : FnOkX P f args i q q' post) (hf : P.funcs[f]? = some fn) (hbd : isBody fn = true) (hd : depNone (post :: args) = true) (hsd : Nat.beq s d = false) (hdst : o.dst = some d)
  (ho : o.op = .call { callee := .value (.func f), args := xs, argTypes := ts }) (hy : xs.toList[i]? = some y) (hyx : OpdOk N y (fCp s)) (hargs : ArgsOk N args xs.toList) : OpOk P o N [(s, q)] post [(s, none), (d, some q')] :=
 ok_callXQ hc hf hbd hd hsd hdst ho hy (fun h a e n k => by rw [show a.eval y = a.gt s from hyx h a n]; exact k) hargs
theorem ok_callM0 {s i : Nat} {ι : Type} {q0 q0' : OwnP} {q q' : ι → OwnP} {fx : Fact} {f : FuncId} {fn : Func} {args : List Fact} {post : Fact} {xs : Array Operand} {ts : Array TypeId} {y : Operand}
  (hc : ∀ k, FnOkM P f args i (q k) (q' k) post) (hb : Borrow s fx q0 q0' q q') (hfx : fx.dep = some s) (hf : P.funcs[f]? = some fn) (hbd : isBody fn = true) (hd : depNone (post :: args) = true) (hds : dstNe o.dst s = true)
  (ho : o.op = .call { callee := .value (.func f), args := xs, argTypes := ts }) (hy : xs.toList[i]? = some y) (hyx : OpdOk N y fx) (hargs : ArgsOk N args xs.toList) : OpOk P o N [(s, q0)] Fact.triv [(s, some q0')] :=
 OpOk.out (depNone_spec hd post List.mem_cons_self) (fun _ _ _ _ => trivial) (ok_callM hc hb hfx hf hbd hd hds ho hy hyx hargs)
end Go.KB
namespace Go.KB
variable {P : Program} {o : Oper} {N : List (Nat × Fact)} {α β : Type}
end Go.KB
namespace Go.KB
section
variable {P : Program} {o : Oper} {N : List (Nat × Fact)} {α : Type}
theorem ok_ld {T : TypeId} {r : Rep α} {s : Nat} {y : α} (t : TyOk P T r) (ho : o.op = .load T (.tmp s)) : OpOk P o ((s, fRef r y) :: N) [] (fV r y) [] := ok_load t ho opd0
theorem ok_fd {β : Type} {T : TypeId} {r : Rep α} {q : Rep β} {s : Nat} {y : α} {i off : Nat} {get : α → β} {set : α → β → α} (l : Lens r q off get set) (hf : FieldOk P T i off) (ho : o.op = .fieldAddr T (.tmp s) i) : OpOk P o ((s, fRef r y) :: N) [] (fRef q (get y)) [] := ok_field l hf ho opd0
theorem ok_st {T : TypeId} {r : Rep α} {s v : Nat} {y z : α} (t : TyOk P T r) (ho : o.op = .store T (.tmp s) (.tmp v)) (hd : o.dst = none := by rfl) : OpOk P o ((v, fV r z) :: N) [(s, boxE T r y)] Fact.triv [(s, some (boxE T r z))] := ok_storeBox t hd ho opd0
def cmpOp : BinOp → Bool
 | .eql | .neq | .lss | .leq | .gtr | .geq => true
 | _ => false
theorem cmpOp_spec {op : BinOp} (h : cmpOp op = true) : op = .eql ∨ op = .neq ∨ op = .lss ∨ op = .leq ∨ op = .gtr ∨ op = .geq := by
 cases op <;> first | (cases h; done) | simp
theorem ok_c0 {op : BinOp} {k : IntKind} {T T' : TypeId} {s : Nat} {m n : Int} (ho : o.op = .binOp op T (.tmp s) (.const (.int k n)) T') (hop : cmpOp op = true := by rfl) : OpOk P o ((s, fV (Rep.int k) m) :: N) [] (fV Rep.bool (cmpI op m n)) [] := ok_cmp (cmpOp_spec hop) rfl ho opd0 opdI
theorem ok_c1 {op : BinOp} {k : IntKind} {T T' : TypeId} {s t : Nat} {m n : Int} (ho : o.op = .binOp op T (.tmp s) (.tmp t) T') (hop : cmpOp op = true := by rfl) : OpOk P o ((s, fV (Rep.int k) m) :: (t, fV (Rep.int k) n) :: N) [] (fV Rep.bool (cmpI op m n)) [] := ok_cmp (cmpOp_spec hop) rfl ho opd0 opd1
theorem bindE2 {α β γ : Type} {x : Option α} {f : α → Option β} {g : α → β → Option γ} {r : γ} (h : (x.bind fun a => (f a).bind (g a)) = some r) : ∃ a, x = some a ∧ ∃ b, f a = some b ∧ g a b = some r := by
 obtain ⟨a, h1, h⟩ := bindE h
 obtain ⟨b, h2, h⟩ := bindE h
 exact ⟨a, h1, b, h2, h⟩
theorem tn {K : Act → World → Prop} {Q : Exit → Act → World → Prop} {a : Act} {w : World} (h : K a w) : Exit.then K Q .normal a w := h
theorem tr {K : Act → World → Prop} {Q : Exit → Act → World → Prop} {a : Act} {w : World} (h : Q .ret a w) : Exit.then K Q .ret a w := h
theorem ws {ρ : Option Nat} {Q : Exit → Act → World → Prop} {a : Act} {w : World} {x y : Code} (h : x.wpK ρ P (Exit.then (y.wpK ρ P Q) Q) a w) : (Code.seq x y).wpK ρ P Q a w := wp_seq h
theorem wk {ρ : Option Nat} {Q : Exit → Act → World → Prop} {a : Act} {w : World} (h : Q .normal a w) : Code.skip.wpK ρ P Q a w := wp_skip h
theorem wr {ρ : Option Nat} {Q : Exit → Act → World → Prop} {a : Act} {w : World} (h : Q .ret a w) : Code.ret.wpK ρ P Q a w := wp_ret h
abbrev ln {α : Type} (l : List α) : Int := (List.length l : Int)
abbrev w3 : Int → Int := IntKind.u32.wrap
abbrev w6 : Int → Int := IntKind.u64.wrap
abbrev w1 : Int → Int := IntKind.u16.wrap
abbrev lS {α : Type} (r : Rep α) : Rep (List α) := Rep.slice r
theorem ok_indexV {T E : TypeId} {r : Rep α} {m : Nat} {k : IntKind} {x i : Operand} {xs : List α} {n : Int} {y : α} (hq : idx xs n = some y) (t : TyOk P E r) (hT : P.underlying T = some (.array m E)) (ho : o.op = .index T x i) (hx : OpdOk N x (fV (Rep.arr r m) xs)) (hi : OpdOk N i (fV (Rep.int k) n)) :
  OpOk P o N [] (fV r y) [] :=
 OpOk.ofRun fun h a w _ q => by
  obtain ⟨h0, hlt, hy⟩ := idx_spec hq
  obtain ⟨cs, ⟨hlen, hr⟩, hv⟩ := hx h a q
  obtain ⟨p, c, q', rfl, hp, hc, _⟩ := hr.get hy
  refine ⟨pack r.agg c, ?_, c, hc, rfl⟩
  have h1 : 0 ≤ n ∧ n < (m : Int) := by omega
  have hv' : a.eval x = .agg (p ++ c ++ q').toArray := hv
  have hrun := run_part t (p := p) (r := q') hc w
  rw [hp] at hrun
  simp only [execOp, ho, hv', val_int.1 (hi h a q), Instr.index, asIntOf, Sem.run_bind, Sem.run_pure, Result.andThen_ok, run_underlying hT, h1, and_self, if_true, t.size]
  rw [hrun]
  rfl
end
end Go.KB
