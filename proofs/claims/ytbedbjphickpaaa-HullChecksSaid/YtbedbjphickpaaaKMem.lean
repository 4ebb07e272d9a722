/- The operations that look into memory, write it or make it. No condition. -/
import Derived.Test.YtbedbjphickpaaaKOps
import Derived.Laws.AppendOwn
namespace Go.KB
variable {P : Program} {o : Oper} {N : List (Nat × Fact)} {f : Fact} {α β : Type}

/- a pointer into the owned variable to which the slot s points -/
def fOff (s off : Nat) : Fact := ⟨some s, fun _ d v => ∃ b, d = .pointer (some ⟨b, 0, none⟩) ∧ v = .pointer (some ⟨b, off, none⟩), fun _ x => x⟩
def boxEnt (b : Nat) (T : TypeId) (r : Rep α) (x : α) : Ent where
  claims := [(b, 0)]
  ok := fun h m => ∃ cs, m b = some (.cells cs.toArray T (0, 0)) ∧ r.rel h cs x
  mono := fun hl => Exists.imp fun _ => And.imp_right (r.mono hl)
  frame := fun hm ⟨cs, e, k⟩ => ⟨cs, by rw [hm (b, 0) (by simp)]; exact e, k⟩
def boxE (T : TypeId) (r : Rep α) (x : α) : OwnP := fun v e => ∃ b, v = .pointer (some ⟨b, 0, none⟩) ∧ e = boxEnt b T r x

/- one slot's entry is set, the others stay -/
def set1 (L : Nat → Option Ent) (s : Nat) (e : Ent) : Nat → Option Ent := fun k => if k = s then some e else L k
theorem upd_set1 {L : Nat → Option Ent} {s : Nat} {e : Ent} {q : OwnP} {d : Option Nat} {a : Act} (hq : q (a.gt s) e) : UpdOk L (set1 L s e) (full [(s, some q)] d) a := by
  intro k
  by_cases hk : k = s
  · subst hk
    have : lkU (full [(k, some q)] d) k = some (some q) := by simp [full, lkU, Nat.beq_refl]
    rw [this]; exact ⟨e, by simp [set1], hq⟩
  · have h1 : Nat.beq s k = false := by rw [Bool.eq_false_iff, Ne, nbeq]; exact fun x => hk x.symm
    cases d with
    | none =>
      have : lkU (full [(s, some q)] none) k = none := by simp [full, lkU, h1]
      rw [this]; simp [set1, hk]
    | some d =>
      cases h2 : Nat.beq d k with
      | true =>
        have : lkU (full [(s, some q)] (some d)) k = some none := by simp [full, lkU, h1, h2]
        rw [this]; trivial
      | false =>
        have : lkU (full [(s, some q)] (some d)) k = none := by simp [full, lkU, h1, h2]
        rw [this]; simp [set1, hk]
theorem set1_ne {κ : Type} {L : Nat → Option Ent} {F : κ → Option Ent} {s : Nat} {e : Ent} : ∀ k' e', k' ≠ Sum.inl s → Sum.elim (set1 L s e) F k' = some e' → Sum.elim L F k' = some e' := by
  intro k' e' hne he
  cases k' with
  | inr k => exact he
  | inl k =>
    have : k ≠ s := fun x => hne (by rw [x])
    simpa [set1, this] using he
theorem set1_eq {κ : Type} {L : Nat → Option Ent} {F : κ → Option Ent} {s : Nat} {e e' : Ent} (he : Sum.elim (set1 L s e) F (Sum.inl s) = some e') : e' = e := by
  simp [set1] at he; exact he.symm

/- new variables -/
theorem run_newVar {T : TypeId} {r : Rep α} {h : H} {cs : List Value} {x : α} (k : r.rel h cs x) (w : World) :
    (newVar T (pack r.agg cs)).run P w = .ok ⟨w.heap.size, 0, none⟩ (w.alloc (.cells cs.toArray T)) := by
  unfold newVar newRow newObj; rw [cells_pack k]; rfl

theorem mem_new (w : World) (o : Obj) : World.mem (w.alloc o) w.heap.size = some o := heap_alloc_new w o
theorem ok_box {T : TypeId} {r : Rep α} {x : Operand} {y : α} (ho : o.op = .box T x) (hx : OpdOk N x (fV r y)) : OpOk P o N [] (fRef r y) [] := by
  intro κ B F L h a w hst hn _ _ next Q hnext
  obtain ⟨cs, hr, hv⟩ := hx h a hn
  unfold Oper.wp
  have : (execOp a.eval o).run P w = .ok (.value (.pointer (some ⟨w.heap.size, 0, none⟩))) (w.alloc (.cells cs.toArray T)) := by
    simp [execOp, ho, Instr.box, hv, run_newVar hr]
  rw [this]
  obtain ⟨hl, hst'⟩ := hst.allocP cs T
  refine hnext _ _ _ L hl ⟨_, 0, rfl, cs, r.mono hl hr, fun j v hj => ?_⟩ hst' upd_nil
  have hjl := (List.getElem?_eq_some_iff.1 hj).1
  rw [Nat.zero_add, hadd_new hjl, ← hj, List.getElem?_eq_getElem hjl]
theorem St.own_new {κ : Type} {B : Base} {h : H} {L : Nat → Option Ent} {F : κ → Option Ent} {w : World} (s : St B h (Sum.elim L F) w) (ob : Obj) (d : Nat) (e : Ent)
    (hb : ∀ c ∈ e.claims, c.1 = w.heap.size) (hok : e.ok h (World.mem (w.alloc ob))) : St B h (Sum.elim (set1 L d e) F) (w.alloc ob) :=
  s.alloc ob (Sum.inl d) set1_ne (fun e' he => by rw [set1_eq he]; exact ⟨hb, hok⟩)
theorem ok_boxOwn {T : TypeId} {r : Rep α} {x : Operand} {y : α} {d : Nat} (hd : o.dst = some d) (ho : o.op = .box T x) (hx : OpdOk N x (fV r y)) :
    OpOk P o N [] Fact.triv [(d, some (boxE T r y))] := by
  intro κ B F L h a w hst hn _ hdn next Q hnext
  obtain ⟨cs, hr, hv⟩ := hx h a hn
  unfold Oper.wp
  have : (execOp a.eval o).run P w = .ok (.value (.pointer (some ⟨w.heap.size, 0, none⟩))) (w.alloc (.cells cs.toArray T)) := by
    simp [execOp, ho, Instr.box, hv, run_newVar hr]
  rw [this]
  refine hnext _ h _ (set1 L d (boxEnt w.heap.size T r y)) (Hle.refl h) trivial (hst.own_new _ d _ (by simp [boxEnt]) ⟨cs, mem_new _ _, hr⟩) ?_
  rw [hd]
  exact upd_set1 ⟨_, gt_put_same (hdn d hd), rfl⟩
theorem ok_alloc {T : TypeId} {r : Rep α} {d : Nat} (t : TyOk P T r) (hd : o.dst = some d) (ho : o.op = .alloc T) : OpOk P o N [] Fact.triv [(d, some (boxE T r r.zero))] := by
  intro κ B F L h a w hst hn _ hdn next Q hnext
  unfold Oper.wp
  have : (execOp a.eval o).run P w = .ok (.value (.pointer (some ⟨w.heap.size, 0, none⟩))) (w.alloc (.cells r.zc.toArray T)) := by
    simp [execOp, ho, Instr.alloc, t.zero, run_newVar (r.zrel h)]
  rw [this]
  refine hnext _ h _ (set1 L d (boxEnt w.heap.size T r r.zero)) (Hle.refl h) trivial (hst.own_new _ d _ (by simp [boxEnt]) ⟨_, mem_new _ _, r.zrel h⟩) ?_
  rw [hd]
  exact upd_set1 ⟨_, gt_put_same (hdn d hd), rfl⟩

/- the addresses of fields -/
def FieldOk (P : Program) (T : TypeId) (i off : Nat) : Prop := ∀ b o w, (Instr.fieldAt T (.pointer (some ⟨b, o, none⟩)) i).run P w = .ok (.pointer (some ⟨b, o + off, none⟩)) w
theorem FieldOk.mk {T : TypeId} {i off : Nat} {fs : Array Field} {g : Field} {ti : TypeInfo} (h1 : P.underlying T = some (.struct fs)) (h2 : fs[i]? = some g) (h3 : g.offset = off) (h4 : P.info? g.type = some ti) (h5 : ti.size ≠ 0) : FieldOk P T i off := by
  intro b o w
  simp [Instr.fieldAt, run_underlying h1, h2, Instr.sureAddr, fieldPlace, sizeOf, typeInfo, h4, h5, Addr.add_mid, h3]

def fieldInfo (P : Program) (T : TypeId) (i : Nat) : Option (Nat × Bool) :=
  match P.underlying T with
  | some (.struct fs) => match fs[i]? with
    | some g => match P.info? g.type with
      | some ti => some (g.offset, !(Nat.beq ti.size 0))
      | none => none
    | none => none
  | _ => none
theorem FieldOk.of {T : TypeId} {i off : Nat} (h : fieldInfo P T i = some (off, true)) : FieldOk P T i off := by
  unfold fieldInfo at h
  split at h
  · rename_i fs hT
    split at h
    · rename_i g hg
      split at h
      · rename_i ti hti
        simp only [Option.some.injEq, Prod.mk.injEq, Bool.not_eq_true'] at h
        refine FieldOk.mk hT hg h.1 hti ?_
        intro h0
        have := h.2
        rw [h0] at this
        cases this
      · cases h
    · cases h
  · cases h

theorem ok_field {T : TypeId} {r : Rep α} {s : Rep β} {x : Operand} {y : α} {i off : Nat} {get : α → β} {set : α → β → α} (l : Lens r s off get set) (hf : FieldOk P T i off) (ho : o.op = .fieldAddr T x i) (hx : OpdOk N x (fRef r y)) :
    OpOk P o N [] (fRef s (get y)) [] :=
  OpOk.ofRun fun h a w _ q => by
    obtain ⟨b, off', hv, k⟩ := hx h a q
    exact ⟨.pointer (some ⟨b, off' + off, none⟩), by simp [execOp, ho, hv, hf b off' w], b, _, rfl, l.ref k⟩
theorem ok_fieldOwn {T T' : TypeId} {r : Rep α} {y : α} {s i off : Nat} (hf : FieldOk P T i off) (ho : o.op = .fieldAddr T (.tmp s) i) : OpOk P o N [(s, boxE T' r y)] (fOff s off) [] := by
  intro κ B F L h a w hst hn hk _ next Q hnext
  obtain ⟨e, _, b, hv, _⟩ := hk.1
  unfold Oper.wp
  have hv' : a.eval (.tmp s) = .pointer (some ⟨b, 0, none⟩) := hv
  have : (execOp a.eval o).run P w = .ok (.value (.pointer (some ⟨b, off, none⟩))) w := by simp [execOp, ho, hv', hf b 0 w]
  rw [this]
  exact hnext _ h w L (Hle.refl h) ⟨b, hv, rfl⟩ hst upd_nil
theorem ok_fieldOff {T : TypeId} {s i off off' : Nat} {x : Operand} (hf : FieldOk P T i off) (ho : o.op = .fieldAddr T x i) (hx : OpdOk N x (fOff s off')) : OpOk P o N [] (fOff s (off' + off)) [] :=
  OpOk.ofRun fun h a w _ q => by
    obtain ⟨b, hd, hv⟩ := hx h a q
    exact ⟨.pointer (some ⟨b, off' + off, none⟩), by simp [execOp, ho, hv, hf b off' w], b, hd, rfl⟩

/- loads -/
theorem ok_load {T : TypeId} {r : Rep α} {x : Operand} {y : α} (t : TyOk P T r) (ho : o.op = .load T x) (hx : OpdOk N x (fRef r y)) : OpOk P o N [] (fV r y) [] :=
  OpOk.ofRun fun h a w hext q => by
    obtain ⟨b, off, hv, cs, hr, hc⟩ := hx h a q
    exact ⟨pack r.agg cs, by simp [execOp, ho, hv, run_load_ref t (fun x => hext x) hr hc], cs, hr, rfl⟩

theorem run_load_own {T T' : TypeId} {r : Rep α} {s : Rep β} {off : Nat} {get : α → β} {set : α → β → α} (t : TyOk P T s) (l : Lens r s off get set) {h : H} {y : α} {w : World} {b : Nat} {cs : List Value}
    (hb : w.heap[b]? = some (.cells cs.toArray T' (0, 0))) (hr : r.rel h cs y) : ∃ c, s.rel h c (get y) ∧ (Instr.loadAt T (.pointer (some ⟨b, off, none⟩))).run P w = .ok (pack s.agg c) w := by
  obtain ⟨p, c, q, rfl, hp, hc, _⟩ := l h cs y hr
  refine ⟨c, hc, run_load_cells t (s.len hc) fun j v hj => ?_⟩
  rw [cell?_eq _ _ _ _ _ _ hb]
  have hjl := (List.getElem?_eq_some_iff.1 hj).1
  rw [← hp]
  simp only [List.getElem?_toArray]
  rw [List.append_assoc, List.getElem?_append_right (by omega), Nat.add_sub_cancel_left, List.getElem?_append_left hjl]; exact hj

theorem own_at {κ : Type} {B : Base} {h : H} {L : Nat → Option Ent} {F : κ → Option Ent} {w : World} (hst : St B h (Sum.elim L F) w) {s b : Nat} {T : TypeId} {r : Rep α} {x : α}
    (hk : L s = some (boxEnt b T r x)) : ∃ cs, w.heap[b]? = some (.cells cs.toArray T (0, 0)) ∧ r.rel h cs x := (hst.own (k := Sum.inl s) hk).2

theorem ok_loadOwn {T T' : TypeId} {r : Rep α} {q : Rep β} {s off : Nat} {x : Operand} {y : α} {get : α → β} {set : α → β → α} (l : Lens r q off get set) (t : TyOk P T q) (ho : o.op = .load T x) (hx : OpdOk N x (fOff s off)) :
    OpOk P o N [(s, boxE T' r y)] (fV q (get y)) [] := by
  intro κ B F L h a w hst hn hk _ next Q hnext
  obtain ⟨b, hd, hv⟩ := hx h a hn
  obtain ⟨e, hL, b', hv', rfl⟩ := hk.1
  have hd' : a.gt s = .pointer (some ⟨b, 0, none⟩) := hd
  rw [hd'] at hv'; cases hv'
  obtain ⟨cs, hb, hr⟩ := own_at hst hL
  obtain ⟨c, hc, hrun⟩ := run_load_own t l hb hr
  unfold Oper.wp
  have : (execOp a.eval o).run P w = .ok (.value (pack q.agg c)) w := by simp [execOp, ho, hv, hrun]
  rw [this]
  exact hnext _ h w L (Hle.refl h) ⟨c, hc, rfl⟩ hst upd_nil
theorem ok_loadBox {T T' : TypeId} {r : Rep α} {s : Nat} {y : α} (t : TyOk P T r) (ho : o.op = .load T (.tmp s)) :
    OpOk P o N [(s, boxE T' r y)] (fV r y) [] := by
  intro κ B F L h a w hst hn hk _ next Q hnext
  obtain ⟨e, hL, b, hv, rfl⟩ := hk.1
  have hv' : a.eval (.tmp s) = .pointer (some ⟨b, 0, none⟩) := hv
  obtain ⟨cs, hb, hr⟩ := own_at hst hL
  obtain ⟨c, hc, hrun⟩ := run_load_own t (Lens.refl r) hb hr
  unfold Oper.wp
  have : (execOp a.eval o).run P w = .ok (.value (pack r.agg c)) w := by simp [execOp, ho, hv', hrun]
  rw [this]
  exact hnext _ h w L (Hle.refl h) ⟨c, hc, rfl⟩ hst upd_nil

/- stores -/
theorem setRow_mem (w : World) (b : Nat) (cs cs' : Array Value) (T : TypeId) (hb : w.heap[b]? = some (.cells cs T (0, 0))) : World.mem (w.setRow b cs') b = some (.cells cs' T (0, 0)) := setRow_heap w b cs cs' T (0, 0) hb
theorem St.put {κ : Type} {B : Base} {h : H} {L : Nat → Option Ent} {F : κ → Option Ent} {w : World} (hst : St B h (Sum.elim L F) w) {s b : Nat} {T : TypeId} {r : Rep α} {x y : α} {cs cs' : List Value}
    (hk : L s = some (boxEnt b T r x)) (hb : w.heap[b]? = some (.cells cs.toArray T (0, 0))) (hr : r.rel h cs' y) :
    St B h (Sum.elim (set1 L s (boxEnt b T r y)) F) (w.setRow b cs'.toArray) := by
  obtain ⟨hcl, _⟩ := hst.own (k := Sum.inl s) hk
  have hno := (hcl (b, 0) (by simp [boxEnt])).2.2
  refine hst.write (Sum.inl s) (e := boxEnt b T r x) hk (b := b) (lo := 0) (by simp [boxEnt]) (setRow_mem w b _ cs'.toArray T hb) (fun i hi => setRow_other w b i cs'.toArray hi) (by simp [World.setRow]) rfl rfl rfl ?_ set1_ne ?_
  · intro o' v hh
    rw [hno o' (Nat.zero_le _)] at hh; cases hh
  · intro e' he
    rw [set1_eq he]
    exact ⟨fun c hc => hc, cs', setRow_mem w b _ _ T hb, hr⟩

theorem ok_store {T T' : TypeId} {r : Rep α} {q : Rep β} {s off : Nat} {x v : Operand} {y : α} {z : β} {get : α → β} {set : α → β → α} {y' : α} (l : Lens r q off get set) (t : TyOk P T q) (hd : o.dst = none)
    (ho : o.op = .store T x v) (hx : OpdOk N x (fOff s off)) (hv : OpdOk N v (fV q z)) (hy' : y' = set y z) : OpOk P o N [(s, boxE T' r y)] Fact.triv [(s, some (boxE T' r y'))] := by
  subst hy'
  intro κ B F L h a w hst hn hk _ next Q hnext
  obtain ⟨b, hdv, hxv⟩ := hx h a hn
  obtain ⟨e, hL, b', hv', rfl⟩ := hk.1
  have hd' : a.gt s = .pointer (some ⟨b, 0, none⟩) := hdv
  rw [hd'] at hv'; cases hv'
  obtain ⟨cs, hb, hr⟩ := own_at hst hL
  obtain ⟨c', hc', hvv⟩ := hv h a hn
  obtain ⟨p, c, q', rfl, hp, hc, hset⟩ := l h cs y hr
  have hrun := run_store_cells t hc' hb (q.len hc)
  unfold Oper.wp
  have : (execOp a.eval o).run P w = .ok .skip (w.setRow b (p ++ c' ++ q').toArray) := by
    simp only [execOp, ho, hxv, hvv, ← hp, Sem.run_bind, hrun, Result.andThen_ok, Sem.run_pure]
  rw [this]
  refine hnext undef h _ _ (Hle.refl h) trivial (hst.put hL hb (hset h c' z (Hle.refl h) hc')) ?_
  rw [hd]
  exact upd_set1 ⟨b, hd', rfl⟩
theorem ok_storeBox {T : TypeId} {r : Rep α} {s : Nat} {v : Operand} {y z : α} (t : TyOk P T r) (hd : o.dst = none)
    (ho : o.op = .store T (.tmp s) v) (hv : OpdOk N v (fV r z)) : OpOk P o N [(s, boxE T r y)] Fact.triv [(s, some (boxE T r z))] := by
  intro κ B F L h a w hst hn hk _ next Q hnext
  obtain ⟨e, hL, b, hxv, rfl⟩ := hk.1
  have hxv' : a.eval (.tmp s) = .pointer (some ⟨b, 0, none⟩) := hxv
  obtain ⟨cs, hb, hr⟩ := own_at hst hL
  obtain ⟨c', hc', hvv⟩ := hv h a hn
  have hrun := run_store_cells (p := []) (c := cs) (q := []) t hc' (by simpa using hb) (r.len hr)
  unfold Oper.wp
  have : (execOp a.eval o).run P w = .ok .skip (w.setRow b c'.toArray) := by
    simp only [List.length_nil, List.nil_append, List.append_nil] at hrun
    simp only [execOp, ho, hxv', hvv, Sem.run_bind, hrun, Result.andThen_ok, Sem.run_pure]
  rw [this]
  refine hnext undef h _ _ (Hle.refl h) trivial (hst.put hL hb hc') ?_
  rw [hd]
  exact upd_set1 ⟨b, hxv, rfl⟩

/- slices that are only read -/
def idx (xs : List α) (n : Int) : Option α := if n < 0 then none else xs[n.toNat]?
theorem ok_index {T E : TypeId} {r : Rep α} {k : IntKind} {x i : Operand} {xs : List α} {n : Int} {y : α} (t : TyOk P E r) (hT : P.underlying T = some (.slice E)) (hq : idx xs n = some y) (ho : o.op = .indexAddr T x i)
    (hx : OpdOk N x (fV (Rep.slice r) xs)) (hi : OpdOk N i (fV (Rep.int k) n)) : OpOk P o N [] (fRef r y) [] :=
  OpOk.ofRun fun h a w _ q => by
    unfold idx at hq
    split at hq
    · cases hq
    · rename_i hn
      have hlt := (List.getElem?_eq_some_iff.1 hq).1
      rcases val_slice.1 (hx h a q) with ⟨_, rfl⟩ | ⟨b, off, cap, hv, hcap, hc⟩
      · simp at hlt
      · refine ⟨.pointer (some ⟨b, off + n.toNat * r.sz, none⟩), ?_, b, _, rfl, hc _ _ hq⟩
        have : 0 ≤ n ∧ n < xs.length := by omega
        simp [execOp, ho, hv, val_int.1 (hi h a q), Instr.indexAt, asIntOf, run_underlying hT, this, t.size, Addr.add_mid]
theorem ok_len {T : TypeId} {E : TypeId} {r : Rep α} {x : Operand} {xs : List α} (hT : P.underlying T = some (.slice E)) (ho : o.op = .call { callee := .builtin .len, args := #[x], argTypes := #[T] })
    (hx : OpdOk N x (fV (Rep.slice r) xs)) : OpOk P o N [] (fV (Rep.int .i64) (xs.length : Int)) [] :=
  OpOk.ofRun fun h a w _ q => by
    refine ⟨.int .i64 (xs.length : Int), ?_, val_int.2 rfl⟩
    have : ∃ ad cap, a.eval x = .slice ad xs.length cap := by
      rcases val_slice.1 (hx h a q) with ⟨⟨base, hv⟩, rfl⟩ | ⟨b, off, cap, hv, _⟩
      · exact ⟨_, _, hv⟩
      · exact ⟨_, _, hv⟩
    obtain ⟨ad, cap, hv⟩ := this
    simp [execOp, ho, resolve, invoke, builtin, Builtin.len_, hv, run_underlying hT, goInt]
theorem ok_lenS {T : TypeId} {x : Operand} {s : Str} (hT : P.underlying T = some .string) (ho : o.op = .call { callee := .builtin .len, args := #[x], argTypes := #[T] })
    (hx : OpdOk N x (fV Rep.str s)) : OpOk P o N [] (fV (Rep.int .i64) (s.length : Int)) [] :=
  OpOk.ofRun fun h a w _ q => by
    refine ⟨.int .i64 (s.length : Int), ?_, val_int.2 rfl⟩
    simp [execOp, ho, resolve, invoke, builtin, Builtin.len_, val_str.1 (hx h a q), run_underlying hT, goInt]; rfl
end Go.KB
