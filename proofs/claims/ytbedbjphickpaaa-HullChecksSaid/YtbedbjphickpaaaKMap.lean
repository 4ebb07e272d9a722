/- Maps that are owned: made, looked into, written. No condition. -/
import Derived.Test.YtbedbjphickpaaaKVal
import Derived.MapKept
namespace Go.KB
variable {P : Program} {o : Oper} {N : List (Nat × Fact)} {α β : Type}
section
variable [DecidableEq α]

def mget (z : β) : List (α × β) → α → β
  | [], _ => z
  | p :: r, x => bif decide (x = p.1) then p.2 else mget z r x
def mhas : List (α × β) → α → Bool
  | [], _ => false
  | p :: r, x => decide (x = p.1) || mhas r x
def mset : List (α × β) → α → β → List (α × β)
  | [], x, y => [(x, y)]
  | p :: r, x, y => bif decide (x = p.1) then (p.1, y) :: r else p :: mset r x y

/- keys that are told apart at once -/
structure KeyOk (P : Program) (K : TypeId) (rk : Rep α) (f : α → Value) : Prop where
  is : ∀ {h u x}, rk.val h u x → u = f x
  chk : ∀ (e : Bool) (w : World) (x : α), (Instr.checkKey e 10000 K (f x)).run P w = .ok () w
  now : ∃ d, P.underlying K = some d ∧ ∀ x y, Instr.sameNow d (f x) (f y) = some (decide (x = y))
  bits : ∀ x, Instr.sameBits 10000 (f x) (f x) = true
def kStr (s : Str) : Value := .string ⟨s.toArray⟩
theorem KeyOk.str {K : TypeId} (hK : P.underlying K = some .string) : KeyOk P K Rep.str kStr where
  is := fun e => val_str.1 e
  chk := fun e w x => MapKept.run_checkKey hK (by trivial) e 9999
  now := ⟨_, hK, fun x y => by
    simp only [Instr.sameNow, kStr]
    congr 1
    rw [Bool.eq_iff_iff, MapKept.bytes_beq]
    simp⟩
  bits := fun x => (MapKept.bytes_beq _ _).2 rfl
def kInt (k : IntKind) (n : Int) : Value := .int k n
theorem KeyOk.int {K : TypeId} {k : IntKind} (hK : P.underlying K = some (.int k)) : KeyOk P K (Rep.int k) (kInt k) where
  is := fun e => val_int.1 e
  chk := fun e w x => MapKept.run_checkKey hK (by trivial) e 9999
  now := ⟨_, hK, fun x y => by
    simp only [Instr.sameNow, kInt, if_true]
    congr 1⟩
  bits := fun x => by simp [Instr.sameBits, kInt]

end
def MRel (f : α → Value) (rv : Rep β) (h : H) : List MapEntry → List (α × β) → Prop
  | [], [] => True
  | e :: es, p :: l => (e.key = f p.1 ∧ rv.val h e.val p.2) ∧ MRel f rv h es l
  | _, _ => False
theorem MRel.mono {f : α → Value} {rv : Rep β} {h h' : H} (hl : Hle h h') : ∀ {es : List MapEntry} {l : List (α × β)}, MRel f rv h es l → MRel f rv h' es l
  | [], [], _ => trivial
  | _ :: _, _ :: _, ⟨⟨a, b⟩, c⟩ => ⟨⟨a, rv.val_mono hl b⟩, MRel.mono hl c⟩
theorem MRel.snoc {f : α → Value} {rv : Rep β} {h : H} {e : MapEntry} {p : α × β} (he : e.key = f p.1 ∧ rv.val h e.val p.2) : ∀ {es : List MapEntry} {l : List (α × β)}, MRel f rv h es l → MRel f rv h (es ++ [e]) (l ++ [p])
  | [], [], _ => ⟨he, trivial⟩
  | _ :: _, _ :: _, ⟨a, c⟩ => ⟨a, MRel.snoc he c⟩
def mapEnt (b : Nat) (f : α → Value) (rv : Rep β) (l : List (α × β)) : Ent where
  claims := [(b, 0)]
  ok := fun h m => ∃ es clock, m b = some (.map es clock) ∧ MRel f rv h es.toList l
  mono := by rintro h h' m hl ⟨es, c, e, k⟩; exact ⟨es, c, e, k.mono hl⟩
  frame := fun hm ⟨es, c, e, k⟩ => ⟨es, c, by rw [hm (b, 0) (by simp)]; exact e, k⟩
def mapE (f : α → Value) (rv : Rep β) (l : List (α × β)) : OwnP := fun v e => ∃ b, v = .map (some b) ∧ e = mapEnt b f rv l

theorem ok_makeMap {T : TypeId} {f : α → Value} {rv : Rep β} {d : Nat} (hd : o.dst = some d) (ho : o.op = .makeMap T none) : OpOk P o N [] Fact.triv [(d, some (mapE f rv []))] := by
  intro κ B F L h a w hst hn _ hdn next Q hnext
  unfold Oper.wp
  have : (execOp a.eval o).run P w = .ok (.value (.map (some w.heap.size))) (w.alloc (.map #[] 0)) := by
    have e : (Instr.makeMap T none).run P w = .ok (.map (some w.heap.size)) (w.alloc (.map #[] 0)) := rfl
    simp only [execOp, ho, Option.map_none, Sem.run_bind, e, Result.andThen_ok, Sem.run_pure]
  rw [this]
  refine hnext _ h _ (set1 L d (mapEnt w.heap.size f rv [])) (Hle.refl h) trivial (hst.own_new _ d _ (by simp [mapEnt]) ⟨#[], 0, mem_new _ _, trivial⟩) ?_
  rw [hd]
  exact upd_set1 ⟨_, gt_put_same (hdn d hd), rfl⟩
theorem map_at {κ : Type} {B : Base} {h : H} {L : Nat → Option Ent} {F : κ → Option Ent} {w : World} (hst : St B h (Sum.elim L F) w) {s b : Nat} {f : α → Value} {rv : Rep β} {l : List (α × β)}
    (hk : L s = some (mapEnt b f rv l)) : ∃ es clock, w.heap[b]? = some (.map es clock) ∧ MRel f rv h es.toList l := (hst.own (k := Sum.inl s) hk).2
section
variable [DecidableEq α]
theorem find_rel {f : α → Value} {rv : Rep β} {h : H} {d : TypeDesc} (hd : ∀ x y, Instr.sameNow d (f x) (f y) = some (decide (x = y))) (x : α) : ∀ {es : List MapEntry} {l : List (α × β)} (n : Nat), MRel f rv h es l →
    (Instr.findNow d (f x) es n = some none ∧ mhas l x = false ∧ (∀ z, mget z l x = z) ∧ ∀ y, mset l x y = l ++ [(x, y)]) ∨
    ∃ i e0, Instr.findNow d (f x) es n = some (some (n + i, e0.val)) ∧ es[i]? = some e0 ∧ e0.key = f x ∧ mhas l x = true ∧ (∀ z, rv.val h e0.val (mget z l x)) ∧
      ∀ g y, (∀ e, (g e).key = e.key) → (∀ e, rv.val h (g e).val y) → MRel f rv h (es.modify i g) (mset l x y)
  | [], [], _, _ => .inl ⟨rfl, rfl, fun _ => rfl, fun _ => rfl⟩
  | e :: es, p :: l, n, ⟨⟨hk, hv⟩, hr⟩ => by
    by_cases hx : x = p.1
    · refine .inr ⟨0, e, ?_, rfl, by rw [hk, hx], by simp [mhas, hx], fun z => by simpa [mget, hx] using hv, fun g y hg hy => ?_⟩
      · simp only [Instr.findNow, hk, hd, hx, decide_true]; rfl
      · simp only [List.modify_zero_cons, mset, hx, decide_true, cond_true]
        exact ⟨⟨by rw [hg, hk], hy e⟩, hr⟩
    · have hn : ∀ r, Instr.findNow d (f x) es (n + 1) = r → Instr.findNow d (f x) (e :: es) n = r := fun r h => by
        simp only [Instr.findNow, hk, hd]
        rw [show decide (x = p.1) = false from decide_eq_false hx]; exact h
      rcases find_rel hd x (n + 1) hr with ⟨h1, h2, h3, h4⟩ | ⟨i, e0, h1, h2, h3, h4, h5, h6⟩
      · refine .inl ⟨hn _ h1, by simp [mhas, hx, h2], fun z => by simp [mget, hx, h3], fun y => by simp [mset, hx, h4]⟩
      · refine .inr ⟨i + 1, e0, hn _ (by rw [h1]; congr 3; omega), by simpa using h2, h3, by simp [mhas, h4], fun z => by simpa [mget, hx] using h5 z, fun g y hg hy => ?_⟩
        simp only [List.modify_succ_cons, mset, hx, decide_false, cond_false]
        exact ⟨⟨hk, hv⟩, h6 g y hg hy⟩

theorem run_findKey {K : TypeId} {d : TypeDesc} {u : Value} {es : List MapEntry} {r : Option (Nat × Value)} {w : World} (hd : P.underlying K = some d) (h : Instr.findNow d u es 0 = some r) : (Instr.findKey K u es).run P w = .ok r w := by
  unfold Instr.findKey
  simp only [Sem.run_bind, run_underlying hd, Result.andThen_ok, h, Sem.run_pure]

theorem ok_lookup {T K E : TypeId} {rk : Rep α} {f : α → Value} {rv : Rep β} {s : Nat} {x i : Operand} {l : List (α × β)} {y : α} (hf : KeyOk P K rk f) (t : TyOk P E rv) (hT : P.underlying T = some (.map K E))
    (ho : o.op = .lookup T x i false) (hx : OpdOk N x (fCp s)) (hi : OpdOk N i (fV rk y)) : OpOk P o N [(s, mapE f rv l)] (fV rv (mget rv.zero l y)) [] := by
  intro κ B F L h a w hst hn hk _ next Q hnext
  obtain ⟨e, hL, b, hv, rfl⟩ := hk.1
  have hx' : a.eval x = .map (some b) := (hx h a hn : a.eval x = a.gt s).trans hv
  have hi' := hf.is (hi h a hn)
  obtain ⟨es, clock, hb, hr⟩ := map_at hst hL
  obtain ⟨d, hd, hnow⟩ := hf.now
  rcases find_rel hnow y 0 hr with ⟨h1, _, h3, _⟩ | ⟨j, e0, h1, _, _, _, h5, _⟩
  · have : (execOp a.eval o).run P w = .ok (.value (pack rv.agg rv.zc)) w := by
      simp [execOp, ho, hx', hi', Instr.lookup, run_underlying hT, MapKept.run_getObj_map hb, hf.chk, run_findKey hd h1, t.zero]
    unfold Oper.wp
    rw [this]
    exact hnext _ h w L (Hle.refl h) ⟨rv.zc, by rw [h3]; exact rv.zrel h, rfl⟩ hst upd_nil
  · have : (execOp a.eval o).run P w = .ok (.value e0.val) w := by
      simp [execOp, ho, hx', hi', Instr.lookup, run_underlying hT, MapKept.run_getObj_map hb, hf.chk, run_findKey hd h1]
    unfold Oper.wp
    rw [this]
    exact hnext _ h w L (Hle.refl h) (h5 _) hst upd_nil
theorem ok_lookup2 {T K E : TypeId} {rk : Rep α} {f : α → Value} {rv : Rep β} {s : Nat} {x i : Operand} {l : List (α × β)} {y : α} (hf : KeyOk P K rk f) (t : TyOk P E rv) (hT : P.underlying T = some (.map K E))
    (ho : o.op = .lookup T x i true) (hx : OpdOk N x (fCp s)) (hi : OpdOk N i (fV rk y)) : OpOk P o N [(s, mapE f rv l)] (fT2 (fV rv (mget rv.zero l y)) (fV Rep.bool (mhas l y))) [] := by
  intro κ B F L h a w hst hn hk _ next Q hnext
  obtain ⟨e, hL, b, hv, rfl⟩ := hk.1
  have hx' : a.eval x = .map (some b) := (hx h a hn : a.eval x = a.gt s).trans hv
  have hi' := hf.is (hi h a hn)
  obtain ⟨es, clock, hb, hr⟩ := map_at hst hL
  obtain ⟨d, hd, hnow⟩ := hf.now
  rcases find_rel hnow y 0 hr with ⟨h1, h2, h3, _⟩ | ⟨j, e0, h1, _, _, h4, h5, _⟩
  · have : (execOp a.eval o).run P w = .ok (.value (.tuple #[pack rv.agg rv.zc, .bool false])) w := by
      simp [execOp, ho, hx', hi', Instr.lookup, run_underlying hT, MapKept.run_getObj_map hb, hf.chk, run_findKey hd h1, t.zero]
    unfold Oper.wp
    rw [this]
    exact hnext _ h w L (Hle.refl h) ⟨_, _, rfl, ⟨rv.zc, by rw [h3]; exact rv.zrel h, rfl⟩, val_bool.2 (by rw [h2])⟩ hst upd_nil
  · have : (execOp a.eval o).run P w = .ok (.value (.tuple #[e0.val, .bool true])) w := by
      simp [execOp, ho, hx', hi', Instr.lookup, run_underlying hT, MapKept.run_getObj_map hb, hf.chk, run_findKey hd h1]
    unfold Oper.wp
    rw [this]
    exact hnext _ h w L (Hle.refl h) ⟨_, _, rfl, h5 _, val_bool.2 (by rw [h4])⟩ hst upd_nil
theorem run_keyThatStays {u : Value} {w : World} (h : Instr.sameBits 10000 u u = true) : (Instr.keyThatStays u u).run P w = .ok u w := by
  unfold Instr.keyThatStays
  rw [if_pos h]; rfl
def setObjW (w : World) (b : Nat) (o : Obj) : World := { w with heap := w.heap.setIfInBounds b o }
theorem setObjW_at {w : World} {b : Nat} {o o' : Obj} (hb : w.heap[b]? = some o) : (setObjW w b o').heap[b]? = some o' := by
  have := (Array.getElem?_eq_some_iff.1 hb).1
  simp [setObjW, this]
theorem setObjW_ne {w : World} {b i : Nat} {o' : Obj} (hi : i ≠ b) : (setObjW w b o').heap[i]? = w.heap[i]? := by
  simp [setObjW, Ne.symm hi]
theorem ok_mapUpdate {T K E : TypeId} {rk : Rep α} {f : α → Value} {rv : Rep β} {s : Nat} {x i v : Operand} {l : List (α × β)} {y : α} {z : β} (hf : KeyOk P K rk f) (hT : P.underlying T = some (.map K E)) (hd : o.dst = none)
    (ho : o.op = .mapUpdate T x i v ∨ o.op = .insert T x i v) (hx : OpdOk N x (fCp s)) (hi : OpdOk N i (fV rk y)) (hv : OpdOk N v (fV rv z)) : OpOk P o N [(s, mapE f rv l)] Fact.triv [(s, some (mapE f rv (mset l y z)))] := by
  intro κ B F L h a w hst hn hk _ next Q hnext
  obtain ⟨e, hL, b, hvb, rfl⟩ := hk.1
  have hx' : a.eval x = .map (some b) := (hx h a hn : a.eval x = a.gt s).trans hvb
  have hi' := hf.is (hi h a hn)
  have hv' := hv h a hn
  obtain ⟨es, clock, hb, hr⟩ := map_at hst hL
  obtain ⟨d, hdd, hnow⟩ := hf.now
  have fin : ∀ es' clock', MRel f rv h es'.toList (mset l y z) → (execOp a.eval o).run P w = .ok .skip (setObjW w b (.map es' clock')) → o.wp P a w next Q := by
    intro es' clock' hrel hrun
    unfold Oper.wp
    rw [hrun]
    refine hnext undef h _ (set1 L s (mapEnt b f rv (mset l y z))) (Hle.refl h) trivial ?_ ?_
    · obtain ⟨hcl, _⟩ := hst.own (k := Sum.inl s) hL
      have hno := (hcl (b, 0) (by simp [mapEnt])).2.2
      have hlt := (hcl (b, 0) (by simp [mapEnt])).2.1
      refine hst.step (Sum.inl s) (fun i => i = b) (fun i hi _ => ⟨_, hL, (b, 0), by simp [mapEnt], hi.symm⟩) (by simp [setObjW]) rfl rfl rfl (fun i _ hi => setObjW_ne hi) (Hle.refl h) (fun _ _ _ _ => rfl) ?_ set1_ne ?_
      · rintro i o' u (rfl | hi) hu
        · rw [hno o' (Nat.zero_le _)] at hu; cases hu
        · rw [hst.fresh hi] at hu; cases hu
      · intro e' he
        rw [set1_eq he]
        refine ⟨fun c hc => ?_, es', clock', setObjW_at hb, hrel⟩
        simp only [mapEnt, List.mem_singleton] at hc
        subst hc
        exact ⟨.inr ⟨_, hL, (b, 0), by simp [mapEnt], rfl⟩, by simpa [setObjW] using hlt, fun o' _ => hno o' (Nat.zero_le _)⟩
    · rw [hd]
      exact upd_set1 ⟨b, hvb, rfl⟩
  rcases find_rel hnow y 0 hr with ⟨h1, _, _, h4⟩ | ⟨j, e0, h1, h2, h3, _, _, h6⟩
  · refine fin (es.push { key := f y, val := a.eval v, born := clock }) (clock + 1) ?_ ?_
    · rw [h4, Array.toList_push]
      exact MRel.snoc (e := ⟨f y, a.eval v, clock⟩) (p := (y, z)) ⟨rfl, hv'⟩ hr
    · rcases ho with ho | ho <;> simp [execOp, ho, hx', hi', Instr.mapUpdate, run_underlying hT, MapKept.run_getObj_map hb, hf.chk, run_findKey hdd h1, MapKept.run_setObj_map _ hb, setObjW]
  · have h2' : es[j]? = some e0 := by simpa using h2
    refine fin (es.modify j fun e => { e with key := f y, val := a.eval v }) clock ?_ ?_
    · have hkey : es.toList.modify j (fun e => { e with key := f y, val := a.eval v }) = es.toList.modify j (fun e => { e with val := a.eval v }) := by
        refine List.ext_getElem? fun m => ?_
        simp only [List.getElem?_modify]
        by_cases hm : j = m
        · subst hm; simp [h2', ← h3]
        · simp [hm]
      rw [Array.toList_modify, hkey]
      exact h6 _ z (fun _ => rfl) (fun _ => hv')
    · rcases ho with ho | ho <;> simp [execOp, ho, hx', hi', Instr.mapUpdate, run_underlying hT, MapKept.run_getObj_map hb, hf.chk, run_findKey hdd h1, h2', h3, run_keyThatStays (hf.bits y), MapKept.run_setObj_map _ hb, setObjW]
end
theorem ok_takeQ {q : OwnP} {s d : Nat} {x : Operand} (hsd : Nat.beq s d = false) (hd : o.dst = some d) (ho : o.op = .move x ∨ o.op = .assign x) (hx : OpdOk N x (fCp s)) : OpOk P o N [(s, q)] Fact.triv [(s, none), (d, some q)] := by
  intro κ B F L h a w hst hn hk hdn next Q hnext
  obtain ⟨e, hL, hq⟩ := hk.1
  have hx' : a.eval x = a.gt s := hx h a hn
  have hne : s ≠ d := fun x => by rw [nbeq.2 x] at hsd; cases hsd
  unfold Oper.wp
  have : (execOp a.eval o).run P w = .ok (.value (a.gt s)) w := by rcases ho with ho | ho <;> simp [execOp, ho, hx']
  rw [this]
  refine hnext _ h w _ (Hle.refl h) trivial (hst.mv s d) ?_
  rw [hd]
  exact upd_mv hne hL (by rw [gt_put_same (hdn d hd)]; exact hq)
end Go.KB
