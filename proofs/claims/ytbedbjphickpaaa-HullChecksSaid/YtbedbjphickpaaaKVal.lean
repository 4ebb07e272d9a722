/- Fields of values; values whose fields are nil, and variables that take them. No condition. -/
import Derived.Test.YtbedbjphickpaaaKTip
namespace Go.KB
variable {P : Program} {o : Oper} {N : List (Nat × Fact)} {f : Fact} {α β : Type}

def fieldAtB (P : Program) (T : TypeId) (i : Nat) : Option (TypeId × Nat) :=
  match P.underlying T with
  | some (.struct fs) => match fs[i]? with
    | some g => some (g.type, g.offset)
    | none => none
  | _ => none
theorem run_part {T' : TypeId} {q : Rep β} (t : TyOk P T' q) {h : H} {p c r : List Value} {y : β} (hc : q.rel h c y) (w : World) : (part T' (p ++ c ++ r).toArray p.length).run P w = .ok (pack q.agg c) w := by
  have hl := q.len hc
  unfold part
  cases ha : q.agg with
  | true =>
    simp only [Sem.run_bind, t.agg, ha, Result.andThen_ok, if_true, t.size, Sem.run_pure, pack, cond_true]
    congr 2
    simp only [List.extract_toArray, List.extract_eq_take_drop]
    congr 1
    rw [List.append_assoc, List.drop_left' rfl, show p.length + q.sz - p.length = c.length by omega, List.take_left' rfl]
  | false =>
    rw [q.one ha] at hl
    match c, hl with
    | [v], _ =>
      have : (p ++ [v] ++ r).toArray[p.length]? = some v := by simp
      simp only [Sem.run_bind, t.agg, ha, Result.andThen_ok, Bool.false_eq_true, if_false, this, Sem.run_pure, pack, cond_false]
theorem ok_fieldV {T T' : TypeId} {r : Rep α} {q : Rep β} {x : Operand} {y : α} {i off : Nat} {get : α → β} {set : α → β → α} (l : Lens r q off get set) (hag : r.agg = true) (hf : fieldAtB P T i = some (T', off)) (t : TyOk P T' q) (ho : o.op = .field T x i) (hx : OpdOk N x (fV r y)) :
    OpOk P o N [] (fV q (get y)) [] :=
  OpOk.ofRun fun h a w _ n => by
    unfold fieldAtB at hf
    split at hf
    · rename_i fs hT
      split at hf
      · rename_i g hg
        simp only [Option.some.injEq, Prod.mk.injEq] at hf
        obtain ⟨h1, h2⟩ := hf
        obtain ⟨cs, hr, hv⟩ := hx h a n
        obtain ⟨p, c, q', rfl, hp, hc, _⟩ := l h cs y hr
        rw [hag] at hv
        refine ⟨pack q.agg c, ?_, c, hc, rfl⟩
        have := run_part t (p := p) (r := q') hc w
        rw [List.append_assoc] at this
        simp [execOp, ho, hv, pack, Instr.field, run_underlying hT, hg, asAgg, h1, h2, ← hp, this]
      · cases hf
    · cases hf

/- a value of which some fields are nil -/
def fVN (r : Rep α) (x : α) (ts : List TipS) : Fact := ⟨none, fun h _ v => ∃ cs, r.rel h cs x ∧ v = pack r.agg cs ∧ TipsNil cs ts, fun hl ⟨cs, k, e, n⟩ => ⟨cs, r.mono hl k, e, n⟩⟩
theorem opdVN {r : Rep α} {x : α} {ts : List TipS} {y : Operand} (h : OpdOk N y (fVN r x ts)) : OpdOk N y (fV r x) := fun H a n => let ⟨cs, k, e, _⟩ := h H a n; ⟨cs, k, e⟩
theorem TipsNil.apart {p c c' q : List Value} {off sz : Nat} (hp : p.length = off) (hc : c.length = sz) (hc' : c'.length = sz) : ∀ {ts : List TipS}, apartB off sz ts = true → TipsNil (p ++ c ++ q) ts → TipsNil (p ++ c' ++ q) ts := by
  intro ts
  induction ts with
  | nil => intro _ _; trivial
  | cons t ts ih =>
    intro ha hn
    have h1 := apartB_spec ha t List.mem_cons_self
    refine ⟨by rw [get_apart hp hc hc' h1]; exact hn.1, ih ?_ hn.2⟩
    unfold apartB at ha ⊢
    rw [List.all_cons, Bool.and_eq_true] at ha
    exact ha.2
def FillN (P : Program) (N : List (Nat × Fact)) (place : Nat → Option (Nat × Nat)) {α : Type} (r : Rep α) (ts : List TipS) : List (Nat × Operand) → α → α → Prop
  | [], x, y => x = y
  | (i, o) :: rest, x, y => ∃ (β : Type) (s : Rep β) (off : Nat) (get : α → β) (set : α → β → α) (z : β), Lens r s off get set ∧ place i = some (off, s.sz) ∧ apartB off s.sz ts = true ∧ OpdOk N o (fV s z) ∧ FillN P N place r ts rest (set x z) y
theorem fillNN {place : Nat → Option (Nat × Nat)} {r : Rep α} {ts : List TipS} {x : α} : FillN P N place r ts [] x x := rfl
theorem fillNC {place : Nat → Option (Nat × Nat)} {r : Rep α} {ts : List TipS} {s : Rep β} {off i : Nat} {x' : Operand} {get : α → β} {set : α → β → α} {z : β} {rest : List (Nat × Operand)} {x y : α} (l : Lens r s off get set) (hp : place i = some (off, s.sz)) (ha : apartB off s.sz ts = true) (ho : OpdOk N x' (fV s z))
    (k : FillN P N place r ts rest (set x z) y) : FillN P N place r ts ((i, x') :: rest) x y := ⟨β, s, off, get, set, z, l, hp, ha, ho, k⟩
theorem FillN.run {place : Nat → Option (Nat × Nat)} {r : Rep α} {ts : List TipS} {h : H} {a : Act} (n : NAll N h a) : ∀ {parts : List (Nat × Operand)} {x y : α} {cs : List Value}, FillN P N place r ts parts x y → r.rel h cs x → TipsNil cs ts →
    ∃ cs', Instr.fill place cs.toArray (parts.map fun q => (q.1, a.eval q.2)) = some cs'.toArray ∧ r.rel h cs' y ∧ TipsNil cs' ts := by
  intro parts
  induction parts with
  | nil => intro x y cs k hr ht; rw [show x = y from k] at hr; exact ⟨cs, rfl, hr, ht⟩
  | cons q rest ih =>
    obtain ⟨i, op⟩ := q
    rintro x y cs ⟨β, s, off, get, set, z, l, hp, ha, ho, k⟩ hr ht
    obtain ⟨p, c, q, rfl, hpl, hc, hset⟩ := l h cs x hr
    obtain ⟨c', hc', hv⟩ := ho h a n
    simp only [List.map_cons]
    rw [fill_step hc' hv hp hpl (s.len hc)]
    exact ih k (hset h c' z (Hle.refl h) hc') (ht.apart hpl (s.len hc) (s.len hc') ha)
theorem ok_buildN {T : TypeId} {r : Rep α} {place : Nat → Option (Nat × Nat)} {parts : Array (Nat × Operand)} {y : α} (ts : List TipS) (t : TyOk P T r) (hag : r.agg = true) (hpl : PlacesOk P T place) (ho : o.op = .build T parts)
    (hz : TipsNil r.zc ts) (k : FillN P N place r ts parts.toList r.zero y) : OpOk P o N [] (fVN r y ts) [] :=
  OpOk.ofRun fun h a w _ n => by
    obtain ⟨cs', hf, hr, ht⟩ := k.run n (r.zrel h) hz
    refine ⟨.agg cs'.toArray, ?_, cs', hr, by rw [hag]; rfl, ht⟩
    have h1 := hpl r.zc.toArray (parts.map fun q => (q.1, a.eval q.2)) w cs'.toArray _ (t.zero w) (cells_pack (r.zrel h)) (by rw [Array.toList_map]; exact hf)
    simp only [execOp, ho, Sem.run_bind, h1, Result.andThen_ok, Sem.run_pure]
theorem St.putT {κ : Type} {B : Base} {h : H} {L : Nat → Option Ent} {F : κ → Option Ent} {w : World} (hst : St B h (Sum.elim L F) w) {s b : Nat} {T : TypeId} {r : Rep α} {x y : α} {us : List (Nat × Value × Ent)} {cs cs' : List Value} {ts : List TipS}
    (hk : L s = some (boxTEnt b T r x us)) (hb : w.heap[b]? = some (.cells cs.toArray T (0, 0))) (hr : r.rel h cs' y) (ht : TipsNil cs' ts) :
    St B h (Sum.elim (set1 L s (boxTEnt b T r y (nilUs ts))) F) (w.setRow b cs'.toArray) := by
  obtain ⟨hcl, _⟩ := hst.own (k := Sum.inl s) hk
  have hno := (hcl (b, 0) (by simp [boxTEnt])).2.2
  have hmem := setRow_mem w b _ cs'.toArray T hb
  refine hst.write (Sum.inl s) (e := boxTEnt b T r x us) hk (b := b) (lo := 0) (by simp [boxTEnt]) hmem (fun i hi => setRow_other w b i cs'.toArray hi) (by simp [World.setRow]) rfl rfl rfl ?_ set1_ne ?_
  · intro o' v hh
    rw [hno o' (Nat.zero_le _)] at hh; cases hh
  · intro e' he
    rw [set1_eq he]
    refine ⟨fun c hc => ?_, ⟨cs', hmem, hr, ht.at⟩, fun u hu => by rw [(nilUs_ent hu).1]; trivial⟩
    have hc : c ∈ (b, 0) :: usCl (nilUs ts) := hc
    rw [nilUs_cl] at hc
    simp at hc
    subst hc
    exact List.mem_cons_self
theorem ok_storeBoxN {T : TypeId} {r : Rep α} {ts0 ts : List TipS} {s : Nat} {v : Operand} {y z : α} (t : TyOk P T r) (hd : o.dst = none)
    (ho : o.op = .store T (.tmp s) v) (hv : OpdOk N v (fVN r z ts)) : OpOk P o N [(s, boxT T r y ts0)] Fact.triv [(s, some (boxT T r z ts))] := by
  intro κ B F L h a w hst hn hk _ next Q hnext
  obtain ⟨e, hL, b, us, hxv, _, _, rfl⟩ := hk.1
  have hxv' : a.eval (.tmp s) = .pointer (some ⟨b, 0, none⟩) := hxv
  obtain ⟨⟨cs, hb, hr, _⟩, _⟩ := boxT_at hst hL
  obtain ⟨c', hc', hvv, ht⟩ := hv h a hn
  have hrun := run_store_cells (p := []) (c := cs) (q := []) t hc' (by simpa using hb) (r.len hr)
  unfold Oper.wp
  have : (execOp a.eval o).run P w = .ok .skip (w.setRow b c'.toArray) := by
    simp only [List.length_nil, List.nil_append, List.append_nil] at hrun
    simp only [execOp, ho, hxv', hvv, Sem.run_bind, hrun, Result.andThen_ok, Sem.run_pure]
  rw [this]
  refine hnext undef h _ _ (Hle.refl h) trivial (hst.putT hL hb hc' ht) ?_
  rw [hd]
  exact upd_set1 ⟨b, _, hxv, nilUs_are ts, nilUs_ok b ts, rfl⟩
theorem ok_storeBoxT {T : TypeId} {r : Rep α} {ts0 : List TipS} {s : Nat} {v : Operand} {y z : α} (t : TyOk P T r) (hd : o.dst = none)
    (ho : o.op = .store T (.tmp s) v) (hv : OpdOk N v (fV r z)) : OpOk P o N [(s, boxT T r y ts0)] Fact.triv [(s, some (boxT T r z []))] :=
  ok_storeBoxN (ts := []) t hd ho (fun h a n => let ⟨cs, k, e⟩ := hv h a n; ⟨cs, k, e, trivial⟩)
theorem ok_boxOwnT {T : TypeId} {r : Rep α} {x : Operand} {y : α} {d : Nat} (hd : o.dst = some d) (ho : o.op = .box T x) (hx : OpdOk N x (fV r y)) :
    OpOk P o N [] Fact.triv [(d, some (boxT T r y []))] := by
  intro κ B F L h a w hst hn _ hdn next Q hnext
  obtain ⟨cs, hr, hv⟩ := hx h a hn
  unfold Oper.wp
  have : (execOp a.eval o).run P w = .ok (.value (.pointer (some ⟨w.heap.size, 0, none⟩))) (w.alloc (.cells cs.toArray T)) := by
    simp [execOp, ho, Instr.box, hv, run_newVar hr]
  rw [this]
  refine hnext _ h _ (set1 L d (boxTEnt w.heap.size T r y [])) (Hle.refl h) trivial (hst.own_new _ d _ (by intro c hc; simp [boxTEnt, usCl] at hc; rw [hc]) ⟨⟨cs, mem_new _ _, hr, fun u hu => by cases hu⟩, fun u hu => by cases hu⟩) ?_
  rw [hd]
  exact upd_set1 ⟨_, [], gt_put_same (hdn d hd), trivial, ⟨List.Pairwise.nil, fun u hu => by cases hu⟩, rfl⟩
theorem rv_cellT {r : Rep α} {x : α} {T : TypeId} {ts : List TipS} {Γ : Ctx} {Λ : Own} {s : Nat} (t : TyOk P T r) (hs : Λ s = some (boxT T r x ts)) : RvOk P Γ Λ (.cell s T) (fV r x) := by
  intro κ B F h a w L hst hOw hsat
  obtain ⟨e, hL, b, us, hv, _, _, rfl⟩ := hOw s _ hs
  obtain ⟨⟨cs, hb, hrel, _⟩, _⟩ := boxT_at hst hL
  obtain ⟨c, hc, hrun⟩ := run_load_own t (Lens.refl r) hb hrel
  refine ⟨pack r.agg c, ?_, c, hc, rfl⟩
  have hv' : a.tmps.getD s undef = .pointer (some ⟨b, 0, none⟩) := hv
  have hrun' : (loadVar T ⟨b, 0, none⟩).run P w = .ok (pack r.agg c) w := by simpa [Instr.loadAt, Instr.sureAddr] using hrun
  simp only [resV, hv', asAddr, Sem.run_bind, Sem.run_pure, Result.andThen_ok, hrun']
end Go.KB
