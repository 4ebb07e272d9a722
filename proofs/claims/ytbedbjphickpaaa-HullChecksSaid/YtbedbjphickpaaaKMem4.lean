/- Rows that are made and written; cuts of slices; texts; comparisons. No condition. -/
import Derived.Test.YtbedbjphickpaaaKMem3
import Derived.Laws.StructEq
import Derived.Laws.Strings
namespace Go.KB
variable {P : Program} {o : Oper} {N : List (Nat × Fact)} {f : Fact} {α β : Type}

def arrEnt (b : Nat) (E : TypeId) (r : Rep α) (xs : List α) (cap : Nat) : Ent where
  claims := [(b, 0)]
  ok := fun h m => ∃ cs rest, m b = some (.cells (cs ++ rest).toArray E (0, 0)) ∧ RelL r h cs xs ∧ (cs ++ rest).length = cap * r.sz
  mono := by rintro h h' m hl ⟨cs, rest, e, k, l⟩; exact ⟨cs, rest, e, k.mono hl, l⟩
  frame := fun hm ⟨cs, rest, e, k, l⟩ => ⟨cs, rest, by rw [hm (b, 0) (by simp)]; exact e, k, l⟩
def arrE (E : TypeId) (r : Rep α) (xs : List α) : OwnP := fun v e => (v = .slice none 0 0 ∧ xs = [] ∧ e = nilEnt) ∨ ∃ b cap, v = .slice (some ⟨b, 0, none⟩) xs.length cap ∧ xs.length ≤ cap ∧ e = arrEnt b E r xs cap
def fCp (s : Nat) : Fact := ⟨some s, fun _ d v => v = d, fun _ x => x⟩
def fEl (s off : Nat) : Fact := ⟨some s, fun _ d v => ∃ b len cap, d = .slice (some ⟨b, 0, none⟩) len cap ∧ v = .pointer (some ⟨b, off, none⟩), fun _ x => x⟩

def mk (z : α) (m c : Int) : Option (List α) := bif decide (0 ≤ m) && decide (m ≤ c) && decide (c ≤ lim) then some (List.replicate m.toNat z) else none
theorem mk_spec {z : α} {m c : Int} {xs : List α} (h : mk z m c = some xs) : 0 ≤ m ∧ m ≤ c ∧ c ≤ lim ∧ xs = List.replicate m.toNat z := by
  unfold mk at h
  cases hb : (decide (0 ≤ m) && decide (m ≤ c) && decide (c ≤ lim)) with
  | true => rw [hb] at h; cases h; simp at hb; exact ⟨hb.1.1, hb.1.2, hb.2, rfl⟩
  | false => rw [hb] at h; cases h

theorem wrap64_id {n : Int} (h0 : -9223372036854775808 ≤ n) (h1 : n ≤ 9223372036854775807) : IntKind.i64.wrap n = n := IntWalk.i64_in _ ⟨h0, h1⟩
theorem run_makeSlice {T E : TypeId} {r : Rep α} {m c : Int} {k k' : IntKind} (w : World) (el : ElOk P E r) (t : TyOk P E r) (hT : P.underlying T = some (.slice E)) (h0 : 0 ≤ m) (h1 : m ≤ c) (h2 : c ≤ lim) :
    (Instr.makeSlice T (.int k m) (.int k' c)).run P w = .ok (.slice (some ⟨w.heap.size, 0, none⟩) m.toNat c.toNat) (w.alloc (.cells (List.replicate c.toNat r.zc).flatten.toArray E)) := by
  obtain ⟨i, hi, hsz, hby, hzero⟩ := el.out
  have hz : (pack r.agg r.zc).cells = r.zc.toArray := cells_pack (r.zrel (fun _ _ => none))
  have hzl := r.len (r.zrel (fun _ _ => none))
  have hl : (lim : Int) = 274877906944 := rfl
  rw [hl] at h2
  have hwm : IntKind.i64.wrap m = m := wrap64_id (by omega) (by omega)
  have hwc : IntKind.i64.wrap c = c := wrap64_id (by omega) (by omega)
  have hb1 : (i.bytes : Int) * c ≤ 2 ^ 48 := by
    have h3 : (i.bytes : Int) ≤ 512 := by omega
    have h4 : (i.bytes : Int) * c ≤ 512 * c := Int.mul_le_mul_of_nonneg_right h3 (by omega)
    omega
  have htl : (decide (c < 0) || decide ((i.bytes : Int) * c > 2 ^ 48)) = false := by
    rw [Bool.or_eq_false_iff]; exact ⟨by simp; omega, by simpa using hb1⟩
  unfold Instr.makeSlice
  simp only [Sem.run_bind, run_underlying hT, Result.andThen_ok, asInt, asIntOf, Sem.run_pure, typeInfo, run_program, hi, hwm, hwc]
  rw [if_neg (by rw [htl]; simp; omega)]
  have hroom : (askRoom (c.toNat * i.bytes)).run P w = .ok () w := by unfold askRoom; split <;> rfl
  simp only [Sem.run_bind, hroom, Result.andThen_ok, t.size]
  by_cases hn : c.toNat * r.sz = 0
  · have hnil : (List.replicate c.toNat r.zc).flatten = [] := by
      apply List.eq_nil_of_length_eq_zero
      rw [List.length_flatten]; simp [hzl, hn]
    simp only [hn, if_true, Sem.run_bind, Sem.run_pure, Result.andThen_ok, Array.range_zero', Array.map_empty, run_newRow, hnil]
  · simp only [hn, if_false, Sem.run_bind, t.zero, Sem.run_pure, Result.andThen_ok, hz, zero_row, run_newRow]

theorem rep_split (r : Rep α) (m c : Nat) (hmc : m ≤ c) : (List.replicate c r.zc).flatten = (List.replicate m r.zc).flatten ++ (List.replicate (c - m) r.zc).flatten := by
  rw [← List.flatten_append, List.replicate_append_replicate]; congr 2; omega
theorem rep_len (r : Rep α) (c : Nat) : (List.replicate c r.zc).flatten.length = c * r.sz := by
  rw [List.length_flatten]; simp [r.len (r.zrel (fun _ _ => none))]

theorem ok_makeArr {T E : TypeId} {r : Rep α} {m c : Int} {k k' : IntKind} {x y : Operand} {xs : List α} {d : Nat} (hq : mk r.zero m c = some xs) (el : ElOk P E r) (t : TyOk P E r) (hT : P.underlying T = some (.slice E)) (hd : o.dst = some d) (ho : o.op = .makeSlice T x y)
    (hx : OpdOk N x (fV (Rep.int k) m)) (hy : OpdOk N y (fV (Rep.int k') c)) : OpOk P o N [] Fact.triv [(d, some (arrE E r xs))] := by
  obtain ⟨h0, h1, h2, rfl⟩ := mk_spec hq
  intro κ B F L h a w hst hn _ hdn next Q hnext
  unfold Oper.wp
  have hrun := run_makeSlice (k := k) (k' := k') w el t hT h0 h1 h2
  have : (execOp a.eval o).run P w = .ok (.value (.slice (some ⟨w.heap.size, 0, none⟩) m.toNat c.toNat)) (w.alloc (.cells (List.replicate c.toNat r.zc).flatten.toArray E)) := by
    simp only [execOp, ho, val_int.1 (hx h a hn), val_int.1 (hy h a hn), Sem.run_bind, hrun, Result.andThen_ok, Sem.run_pure]
  rw [this]
  have hmc : m.toNat ≤ c.toNat := by omega
  refine hnext _ h _ (set1 L d (arrEnt w.heap.size E r (List.replicate m.toNat r.zero) c.toNat)) (Hle.refl h) trivial (hst.own_new _ d _ (by simp [arrEnt]) ?_) ?_
  · refine ⟨(List.replicate m.toNat r.zc).flatten, (List.replicate (c.toNat - m.toNat) r.zc).flatten, ?_, RelL.zeros r h _, ?_⟩
    · rw [mem_new, ← rep_split r _ _ hmc]
    · rw [← rep_split r _ _ hmc, rep_len]
  · rw [hd]
    exact upd_set1 (.inr ⟨_, c.toNat, by rw [gt_put_same (hdn d hd), List.length_replicate], by rw [List.length_replicate]; exact hmc, rfl⟩)
theorem ok_makeTip {T E : TypeId} {r : Rep α} {m c : Int} {k k' : IntKind} {x y : Operand} {xs : List α} {d : Nat} (hq : mk r.zero m c = some xs) (el : ElOk P E r) (t : TyOk P E r) (hT : P.underlying T = some (.slice E)) (hd : o.dst = some d) (ho : o.op = .makeSlice T x y)
    (hx : OpdOk N x (fV (Rep.int k) m)) (hy : OpdOk N y (fV (Rep.int k') c)) : OpOk P o N [] (fV (Rep.slice r) xs) [(d, some (tipE E r.sz))] := by
  obtain ⟨h0, h1, h2, rfl⟩ := mk_spec hq
  intro κ B F L h a w hst hn _ hdn next Q hnext
  unfold Oper.wp
  have hrun := run_makeSlice (k := k) (k' := k') w el t hT h0 h1 h2
  have : (execOp a.eval o).run P w = .ok (.value (.slice (some ⟨w.heap.size, 0, none⟩) m.toNat c.toNat)) (w.alloc (.cells (List.replicate c.toNat r.zc).flatten.toArray E)) := by
    simp only [execOp, ho, val_int.1 (hx h a hn), val_int.1 (hy h a hn), Sem.run_bind, hrun, Result.andThen_ok, Sem.run_pure]
  rw [this]
  have hmc : m.toNat ≤ c.toNat := by omega
  obtain ⟨h', hle, hst', hsl⟩ := hst.newRow (rest := (List.replicate (c.toNat - m.toNat) r.zc).flatten) E d c.toNat (RelL.zeros r h m.toNat) (by rw [← rep_split r _ _ hmc, rep_len]) (by rw [List.length_replicate]; exact hmc)
  rw [← rep_split r _ _ hmc] at hst'
  rw [List.length_replicate] at hst' hsl
  refine hnext _ h' _ _ hle (val_slice.2 hsl) hst' ?_
  rw [hd]
  exact upd_set1 (.inr ⟨_, 0, _, _, gt_put_same (hdn d hd), by simp⟩)

theorem ok_cp {s : Nat} (ho : o.op = .move (.tmp s)) : OpOk P o N [] (fCp s) [] :=
  OpOk.ofRun fun h a w _ _ => ⟨a.gt s, by simp [execOp, ho, Act.eval, Act.gt], rfl⟩
theorem ok_lenArr {T E E' : TypeId} {r : Rep α} {s : Nat} {x : Operand} {xs : List α} (hT : P.underlying T = some (.slice E')) (ho : o.op = .call { callee := .builtin .len, args := #[x], argTypes := #[T] }) (hx : OpdOk N x (fCp s)) :
    OpOk P o N [(s, arrE E r xs)] (fV (Rep.int .i64) (xs.length : Int)) [] := by
  intro κ B F L h a w hst hn hk _ next Q hnext
  obtain ⟨e, _, hq⟩ := hk.1
  have hx' : a.eval x = a.gt s := hx h a hn
  have : (execOp a.eval o).run P w = .ok (.value (.int .i64 (xs.length : Int))) w := by
    rcases hq with ⟨hv, rfl, _⟩ | ⟨b, cap, hv, _, _⟩
    · have hv' : a.gt s = _ := hv
      simp [execOp, ho, resolve, invoke, builtin, Builtin.len_, hx', hv', run_underlying hT, goInt]
    · have hv' : a.gt s = _ := hv
      simp [execOp, ho, resolve, invoke, builtin, Builtin.len_, hx', hv', run_underlying hT, goInt]
  unfold Oper.wp
  rw [this]
  exact hnext _ h w L (Hle.refl h) (val_int.2 rfl) hst upd_nil
theorem idx_spec {xs : List α} {n : Int} {y : α} (h : idx xs n = some y) : 0 ≤ n ∧ n.toNat < xs.length ∧ xs[n.toNat]? = some y := by
  unfold idx at h
  split at h
  · cases h
  · rename_i hn
    exact ⟨by omega, (List.getElem?_eq_some_iff.1 h).1, h⟩
theorem ok_elArr {T E : TypeId} {r : Rep α} {s : Nat} {k : IntKind} {x i : Operand} {xs : List α} {n : Int} {y : α} (hq : idx xs n = some y) (t : TyOk P E r) (hT : P.underlying T = some (.slice E)) (ho : o.op = .indexAddr T x i) (hx : OpdOk N x (fCp s)) (hi : OpdOk N i (fV (Rep.int k) n)) :
    OpOk P o N [(s, arrE E r xs)] (fEl s (n.toNat * r.sz)) [] := by
  obtain ⟨h0, h1, _⟩ := idx_spec hq
  intro κ B F L h a w hst hn hk _ next Q hnext
  obtain ⟨e, _, ⟨_, rfl, _⟩ | ⟨b, cap, hv, _, _⟩⟩ := hk.1
  · exact absurd h1 (Nat.not_lt_zero _)
  have hx' : a.eval x = a.gt s := hx h a hn
  have hv' : a.gt s = _ := hv
  unfold Oper.wp
  have hb : 0 ≤ n ∧ n < xs.length := by omega
  have : (execOp a.eval o).run P w = .ok (.value (.pointer (some ⟨b, n.toNat * r.sz, none⟩))) w := by
    simp [execOp, ho, hx', hv', val_int.1 (hi h a hn), Instr.indexAt, asIntOf, run_underlying hT, hb, t.size, Addr.add_mid]
  rw [this]
  exact hnext _ h w L (Hle.refl h) ⟨b, _, cap, hv', rfl⟩ hst upd_nil
theorem ok_fieldEl {T : TypeId} {s i off off' : Nat} {x : Operand} (hf : FieldOk P T i off) (ho : o.op = .fieldAddr T x i) (hx : OpdOk N x (fEl s off')) : OpOk P o N [] (fEl s (off' + off)) [] :=
  OpOk.ofRun fun h a w _ q => by
    obtain ⟨b, len, cap, hd, hv⟩ := hx h a q
    exact ⟨.pointer (some ⟨b, off' + off, none⟩), by simp [execOp, ho, hv, hf b off' w], b, len, cap, hd, rfl⟩
theorem arr_at {κ : Type} {B : Base} {h : H} {L : Nat → Option Ent} {F : κ → Option Ent} {w : World} (hst : St B h (Sum.elim L F) w) {s b cap : Nat} {E : TypeId} {r : Rep α} {xs : List α}
    (hk : L s = some (arrEnt b E r xs cap)) : ∃ cs rest, w.heap[b]? = some (.cells (cs ++ rest).toArray E (0, 0)) ∧ RelL r h cs xs ∧ (cs ++ rest).length = cap * r.sz := (hst.own (k := Sum.inl s) hk).2
theorem ok_loadArr {T E : TypeId} {r : Rep α} {q : Rep β} {s off m : Nat} {x : Operand} {xs : List α} {y : α} {get : α → β} {set : α → β → α} (hy : xs[m]? = some y) (l : Lens r q off get set) (t : TyOk P T q) (ho : o.op = .load T x) (hx : OpdOk N x (fEl s (m * r.sz + off))) :
    OpOk P o N [(s, arrE E r xs)] (fV q (get y)) [] := by
  intro κ B F L h a w hst hn hk _ next Q hnext
  obtain ⟨b, len, cap, hd, hv⟩ := hx h a hn
  have hd' : a.gt s = _ := hd
  obtain ⟨e, hL, ⟨hv', _⟩ | ⟨b', cap', hv', hc, rfl⟩⟩ := hk.1
  · rw [hd'] at hv'; cases hv'
  rw [hd'] at hv'; cases hv'
  obtain ⟨cs, rest, hb, hr, _⟩ := arr_at hst hL
  obtain ⟨p, c, q', rfl, hp, hcr, _⟩ := hr.get hy
  obtain ⟨p2, c2, q2, rfl, hp2, hc2, _⟩ := l h c y hcr
  unfold Oper.wp
  have hrun := run_load_cells (b := b) (off := m * r.sz + off) (w := w) t (q.len hc2) (fun j v hj => by
    rw [cell?_eq _ _ _ _ _ _ hb]
    have hjl := (List.getElem?_eq_some_iff.1 hj).1
    simp only [List.getElem?_toArray]
    rw [show p ++ (p2 ++ c2 ++ q2) ++ q' ++ rest = (p ++ p2) ++ (c2 ++ (q2 ++ q' ++ rest)) by simp, List.getElem?_append_right (by simp; omega)]
    rw [show m * r.sz + off + j - (p ++ p2).length = j by simp; omega, List.getElem?_append_left hjl]; exact hj)
  have : (execOp a.eval o).run P w = .ok (.value (pack q.agg c2)) w := by simp [execOp, ho, hv, hrun]
  rw [this]
  exact hnext _ h w L (Hle.refl h) ⟨c2, hc2, rfl⟩ hst upd_nil
theorem ok_storeArr {T E : TypeId} {r : Rep α} {q : Rep β} {s off m : Nat} {x v : Operand} {xs : List α} {y : α} {z : β} {get : α → β} {set : α → β → α} {xs' : List α} (hy : xs[m]? = some y) (l : Lens r q off get set) (t : TyOk P T q) (hd : o.dst = none) (ho : o.op = .store T x v)
    (hx : OpdOk N x (fEl s (m * r.sz + off))) (hv : OpdOk N v (fV q z)) (hs' : xs' = xs.set m (set y z)) : OpOk P o N [(s, arrE E r xs)] Fact.triv [(s, some (arrE E r xs'))] := by
  subst hs'
  intro κ B F L h a w hst hn hk _ next Q hnext
  obtain ⟨b, len, cap, hdv, hxv⟩ := hx h a hn
  have hd' : a.gt s = _ := hdv
  obtain ⟨e, hL, ⟨hv', _⟩ | ⟨b', cap', hv', hc, rfl⟩⟩ := hk.1
  · rw [hd'] at hv'; cases hv'
  rw [hd'] at hv'; cases hv'
  obtain ⟨cs, rest, hb, hr, hlen⟩ := arr_at hst hL
  obtain ⟨c', hc', hvv⟩ := hv h a hn
  obtain ⟨p, c, q', rfl, hp, hcr, hset⟩ := hr.get hy
  obtain ⟨p2, c2, q2, rfl, hp2, hc2, hset2⟩ := l h c y hcr
  have hsh : p ++ (p2 ++ c2 ++ q2) ++ q' ++ rest = (p ++ p2) ++ c2 ++ (q2 ++ q' ++ rest) := by simp
  have hsh' : (p ++ p2) ++ c' ++ (q2 ++ q' ++ rest) = (p ++ (p2 ++ c' ++ q2) ++ q') ++ rest := by simp
  have hb0 := hb
  rw [hsh] at hb
  have hrun := run_store_cells t hc' hb (q.len hc2)
  unfold Oper.wp
  have hpl : (p ++ p2).length = m * r.sz + off := by simp; omega
  have : (execOp a.eval o).run P w = .ok .skip (w.setRow b ((p ++ p2) ++ c' ++ (q2 ++ q' ++ rest)).toArray) := by
    simp only [execOp, ho, hxv, hvv, ← hpl, Sem.run_bind, hrun, Result.andThen_ok, Sem.run_pure]
  rw [this, hsh']
  obtain ⟨hcl, _⟩ := hst.own (k := Sum.inl s) hL
  have hno := (hcl (b, 0) (by simp [arrEnt])).2.2
  have hrel := hset h _ _ (Hle.refl h) (hset2 h c' z (Hle.refl h) hc')
  have hmem := setRow_mem w b (p ++ (p2 ++ c2 ++ q2) ++ q' ++ rest).toArray ((p ++ (p2 ++ c' ++ q2) ++ q') ++ rest).toArray E hb0
  refine hnext undef h _ (set1 L s (arrEnt b E r (xs.set m (set y z)) cap)) (Hle.refl h) trivial ?_ ?_
  · refine hst.write (Sum.inl s) (e := arrEnt b E r xs cap) hL (b := b) (lo := 0) (by simp [arrEnt]) hmem (fun i hi => setRow_other w b i _ hi) (by simp [World.setRow]) rfl rfl rfl ?_ set1_ne ?_
    · intro o' u hh; rw [hno o' (Nat.zero_le _)] at hh; cases hh
    · intro e' he
      rw [set1_eq he]
      refine ⟨fun c hc => hc, _, rest, hmem, hrel, ?_⟩
      rw [← hlen]
      have := q.len hc'; have := q.len hc2
      simp; omega
  · rw [hd]
    exact upd_set1 (.inr ⟨b, cap, by rw [List.length_set]; exact hd', by rw [List.length_set]; exact hc, rfl⟩)
/- the first elements of a row are the row from now on -/
theorem ok_takeArr {T E : TypeId} {r : Rep α} {s d : Nat} {k : IntKind} {x i : Operand} {lo : Option Operand} {xs ys : List α} {n : Int} (hlo : lo = none) (hq : (bif decide (0 ≤ n) && decide (n ≤ xs.length) then some (xs.take n.toNat) else none) = some ys) (hT : P.underlying T = some (.slice E)) (t : TyOk P E r) (hsd : Nat.beq s d = false) (hd : o.dst = some d) (ho : o.op = .slice T x lo (some i) none)
    (hx : OpdOk N x (fCp s)) (hi : OpdOk N i (fV (Rep.int k) n)) : OpOk P o N [(s, arrE E r xs)] Fact.triv [(s, none), (d, some (arrE E r ys))] := by
  subst hlo
  have hn0 : 0 ≤ n ∧ n ≤ xs.length := by
    cases hb : (decide (0 ≤ n) && decide (n ≤ xs.length)) with
    | true => simpa using hb
    | false => rw [hb] at hq; cases hq
  have hys : ys = xs.take n.toNat := by
    rw [show (decide (0 ≤ n) && decide (n ≤ xs.length)) = true by simp [hn0]] at hq
    exact (Option.some.inj hq).symm
  subst hys
  have hne : s ≠ d := fun x => by rw [nbeq.2 x] at hsd; cases hsd
  intro κ B F L h a w hst hn hk hdn next Q hnext
  have hx' : a.eval x = a.gt s := hx h a hn
  obtain ⟨e, hL, ⟨hv, rfl, rfl⟩ | ⟨b, cap, hv, hc, rfl⟩⟩ := hk.1
  · have hv' : a.gt s = _ := hv
    have hn1 : n = 0 := by have := hn0.2; simp at this; omega
    subst hn1
    unfold Oper.wp
    have : (execOp a.eval o).run P w = .ok (.value (.slice none 0 0)) w := by
      simp [execOp, ho, hx', hv', val_int.1 (hi h a hn), Instr.sliceAt, Instr.slice, run_underlying hT, Instr.sliceBounds, Instr.sliceBound, asIntOf, t.size]
    rw [this]
    refine hnext _ h w _ (Hle.refl h) trivial (hst.mv s d) ?_
    rw [hd]
    exact upd_mv hne hL (by rw [gt_put_same (hdn d hd)]; exact .inl ⟨rfl, by simp, rfl⟩)
  have hv' : a.gt s = _ := hv
  unfold Oper.wp
  have hnc : 0 ≤ n ∧ n ≤ (cap : Int) := by omega
  have : (execOp a.eval o).run P w = .ok (.value (.slice (some ⟨b, 0, none⟩) n.toNat cap)) w := by
    simp [execOp, ho, hx', hv', val_int.1 (hi h a hn), Instr.sliceAt, Instr.slice, run_underlying hT, Instr.sliceBounds, Instr.sliceBound, asIntOf, hnc, t.size, Addr.add_mid]
  rw [this]
  have hlt : (xs.take n.toNat).length = n.toNat := by rw [List.length_take]; omega
  have hst1 : St B h (Sum.elim (set1 L s (arrEnt b E r (xs.take n.toNat) cap)) F) w := by
    obtain ⟨hcl, cs, rest, hb, hr, hlen⟩ := hst.own (k := Sum.inl s) hL
    obtain ⟨c, d', rfl, hr'⟩ := hr.take n.toNat (by omega)
    refine hst.step (Sum.inl s) (fun _ => False) (fun _ hb => hb.elim) (Nat.le_refl _) rfl rfl rfl (fun _ _ _ => rfl) (Hle.refl h) (fun _ _ _ _ => rfl) ?_ set1_ne ?_
    · rintro b o' v (hb | hb) hv
      · exact hb.elim
      · rw [hst.fresh hb] at hv; cases hv
    · intro e' he
      rw [set1_eq he]
      refine ⟨fun c hc => ?_, c, d' ++ rest, ?_, hr', ?_⟩
      · obtain ⟨_, h2, h3⟩ := hcl c hc
        exact ⟨.inr ⟨_, hL, c, hc, rfl⟩, h2, h3⟩
      · rw [hb]; simp
      · rw [← hlen]; simp
  refine hnext _ h w _ (Hle.refl h) trivial (hst1.mv s d) ?_
  rw [hd]
  exact upd_mv' (fun k hk => by simp [set1, hk]) hne (by simp [set1]) (.inr ⟨b, cap, by rw [gt_put_same (hdn d hd), hlt], by omega, rfl⟩)

/- the nil slice as a row -/
theorem ok_nilArr {E : TypeId} {r : Rep α} {d : Nat} (hd : o.dst = some d) (ho : o.op = .assign (.const (.slice none 0 0)) ∨ o.op = .move (.const (.slice none 0 0))) : OpOk P o N [] Fact.triv [(d, some (arrE E r []))] := by
  intro κ B F L h a w hst hn _ hdn next Q hnext
  unfold Oper.wp
  have : (execOp a.eval o).run P w = .ok (.value (.slice none 0 0)) w := by rcases ho with ho | ho <;> (simp [execOp, ho]; rfl)
  rw [this]
  have hst' : St B h (Sum.elim (set1 L d nilEnt) F) w := by
    refine hst.step (Sum.inl d) (fun _ => False) (fun b hb => hb.elim) (Nat.le_refl _) rfl rfl rfl (fun _ _ _ => rfl) (Hle.refl h) (fun _ _ _ _ => rfl) ?_ set1_ne ?_
    · rintro b o' v (hb | hb) hv
      · exact hb.elim
      · rw [hst.fresh hb] at hv; cases hv
    · intro e' he; rw [set1_eq he]; exact ⟨fun c hc => (by cases hc), trivial⟩
  refine hnext _ h w _ (Hle.refl h) trivial hst' ?_
  rw [hd]
  exact upd_set1 (.inl ⟨gt_put_same (hdn d hd), rfl, rfl⟩)
/- a copy of a row's slice takes the row over -/
theorem ok_takeCp {E : TypeId} {r : Rep α} {xs : List α} {s d : Nat} {x : Operand} (hsd : Nat.beq s d = false) (hd : o.dst = some d) (ho : o.op = .move x ∨ o.op = .assign x) (hx : OpdOk N x (fCp s)) : OpOk P o N [(s, arrE E r xs)] Fact.triv [(s, none), (d, some (arrE E r xs))] := by
  intro κ B F L h a w hst hn hk hdn next Q hnext
  obtain ⟨e, hL, hq⟩ := hk.1
  have hx' : a.eval x = a.gt s := hx h a hn
  have hne : s ≠ d := fun x => by rw [nbeq.2 x] at hsd; cases hsd
  unfold Oper.wp
  have : (execOp a.eval o).run P w = .ok (.value (a.gt s)) w := by rcases ho with ho | ho <;> (simp [execOp, ho, hx'])
  rw [this]
  refine hnext _ h w _ (Hle.refl h) trivial (hst.mv s d) ?_
  rw [hd]
  exact upd_mv hne hL (by rw [gt_put_same (hdn d hd)]; exact hq)

theorem St.newArr {κ : Type} {B : Base} {h : H} {L : Nat → Option Ent} {F : κ → Option Ent} {w : World} (hst : St B h (Sum.elim L F) w) {r : Rep α} {cx cy : List Value} {xs ys : List α} (E : TypeId) (d cap : Nat) (hx : RelL r h cx xs) (hy : RelL r h cy ys) (hge : xs.length + ys.length ≤ cap) :
    St B h (Sum.elim (set1 L d (arrEnt w.heap.size E r (xs ++ ys) cap)) F) (w.drew.alloc (.cells (cx.toArray ++ cy.toArray ++ Builtin.zeroCells (pack r.agg r.zc).cells (cap - (xs.length + ys.length))) E)) := by
  have hzc : (pack r.agg r.zc).cells.size = r.sz := by rw [cells_pack (r.zrel h)]; simp [r.len (r.zrel h)]
  have hxy := hx.append hy
  have he : (cx.toArray ++ cy.toArray ++ Builtin.zeroCells (pack r.agg r.zc).cells (cap - (xs.length + ys.length))) = ((cx ++ cy) ++ (Builtin.zeroCells (pack r.agg r.zc).cells (cap - (xs.length + ys.length))).toList).toArray := by
    apply Array.ext'; simp
  rw [he]
  refine (hst.drawn (w.drawn + 1)).own_new _ d _ (by intro c hc; simp [arrEnt] at hc; rw [hc]) ⟨_, _, mem_new _ _, hxy, ?_⟩
  rw [List.length_append, hxy.len, zlen, hzc, ← Nat.add_mul, List.length_append]; congr 1; omega

theorem ok_appendArr {T E : TypeId} {r : Rep α} {s d : Nat} {x y : Operand} {xs ys zs : List α} (hz : app xs ys = some zs) (el : ElOk P E r) (hT : P.underlying T = some (.slice E)) (hsd : Nat.beq s d = false) (hd : o.dst = some d)
    (ho : o.op = .call { callee := .builtin .append, args := #[x, y], argTypes := #[T, T] }) (hx : OpdOk N x (fCp s)) (hy : OpdOk N y (fV (Rep.slice r) ys)) :
    OpOk P o N [(s, arrE E r xs)] Fact.triv [(s, none), (d, some (arrE E r zs))] := by
  obtain ⟨rfl, hlim⟩ := app_spec hz
  obtain ⟨i, hi, hsz, hby, hzero⟩ := el.out
  have hne : s ≠ d := fun x => by rw [nbeq.2 x] at hsd; cases hsd
  have hbytes : (xs.length + ys.length) * i.bytes ≤ 140737488355328 := by
    have := Nat.mul_le_mul hlim hby
    unfold lim at this; omega
  have h63 : xs.length + ys.length ≤ 9223372036854775807 := by unfold lim at hlim; omega
  intro κ B F L h a w hst hn hk hdn next Q hnext
  obtain ⟨e, hL, hq⟩ := hk.1
  have hL : L s = some e := hL
  have hq : arrE E r xs (a.gt s) e := hq
  have hx' : a.eval x = a.gt s := hx h a hn
  have hyv := val_slice.1 (hy h a hn)
  have hrun : ∀ v w', (Builtin.append_ #[T, T] o.type #[a.gt s, a.eval y]).run P w = .ok v w' → (execOp a.eval o).run P w = .ok (.value v) w' := by
    intro v w' hr
    simp only [execOp, ho, resolve, invoke, builtin, Sem.run_bind, Sem.run_pure, Result.andThen_ok, List.map_toArray, List.map_cons, List.map_nil, hx', hr]
  unfold Oper.wp
  by_cases hy0 : ys = []
  · subst hy0
    obtain ⟨base', cap', hv', hc'⟩ := hyv.le
    rw [List.length_nil] at hv'
    have : ∃ base cap, a.gt s = .slice base xs.length cap ∧ xs.length ≤ cap := by
      rcases hq with ⟨hv, rfl, _⟩ | ⟨b, cap, hv, hc, _⟩
      · exact ⟨none, 0, hv, Nat.le_refl _⟩
      · exact ⟨_, cap, hv, hc⟩
    obtain ⟨base, cap, hv, hc⟩ := this
    rw [hrun _ _ (by rw [hv, hv']; exact run_append_nothing w hT hi base xs.length cap hc base' cap'), ← hv]
    refine hnext _ h w _ (Hle.refl h) trivial (hst.mv s d) ?_
    rw [hd]
    exact upd_mv hne hL (by rw [gt_put_same (hdn d hd), List.append_nil]; exact hq)
  · have hypos : 0 < ys.length := List.length_pos_iff.2 hy0
    rcases hyv with ⟨_, rfl⟩ | ⟨by_, offy, capy, hyval, _, hyref⟩
    · exact absurd rfl hy0
    obtain ⟨cy, hcy, hcyh⟩ := SlRel.cells hyref
    have hnews : ∀ j u, cy[j]? = some u → w.cell? ((⟨by_, offy, none⟩ : Addr).add j) = some u := fun j u hj => by rw [Addr.add_mid]; exact hst.ext (hcyh j u hj)
    have hcyl : cy.length = ys.length * i.size := by rw [hcy.len, hsz]
    rcases hq with ⟨hxval, rfl, rfl⟩ | ⟨b, cap, hxval, hcap, rfl⟩
    · simp only [List.length_nil, Nat.zero_add] at hbytes h63
      have hxval : a.gt s = _ := hxval
      have hr := run_append_nil (P := P) w T o.type E i _ hT hi hzero ⟨by_, offy, none⟩ ys.length capy cy hcyl hnews hypos (by omega) (by omega)
      rw [hrun _ _ (by rw [hxval, hyval]; exact hr)]
      have hst' := hst.newArr (cx := []) (xs := ([] : List α)) E d (grownCap w ys.length 0 E) rfl hcy (by rw [List.length_nil, Nat.zero_add]; exact grownCap_ge w ys.length 0 E)
      simp only [List.length_nil, Nat.zero_add] at hst'
      have he : (#[] : Array Value) ++ cy.toArray = cy.toArray := by simp
      rw [show ([] : List Value).toArray = #[] from rfl, he] at hst'
      refine hnext _ h _ _ (Hle.refl h) trivial hst' ?_
      rw [hd]
      exact upd_set1' hne (.inr ⟨_, _, gt_put_same (hdn d hd), by simp; exact grownCap_ge w ys.length 0 E, by simp⟩)
    · have hxval : a.gt s = _ := hxval
      obtain ⟨cs, rest, hb, hr0, hlen⟩ := arr_at hst hL
      by_cases hroom : xs.length + ys.length ≤ cap
      · have hcl0 := hr0.len
        have hcyl' := hcy.len
        have hmul : (xs.length + ys.length) * r.sz ≤ cap * r.sz := Nat.mul_le_mul_right _ hroom
        rw [Nat.add_mul] at hmul
        have hlen' : cs.length + rest.length = cap * r.sz := by rw [← hlen, List.length_append]
        have hr := run_append_roomAt (P := P) (ty := o.type) w hT hi b 0 xs.length cap (cs ++ rest).toArray hb ⟨by_, offy, none⟩ ys.length capy cy hcyl hnews hcy.flat hroom (by rw [hsz]; simp; omega)
        rw [hsz, Nat.zero_add] at hr
        have hnew : ((cs ++ rest).toArray.toList.take (xs.length * r.sz) ++ cy ++ (cs ++ rest).toArray.toList.drop (xs.length * r.sz + cy.length)) = (cs ++ cy) ++ rest.drop cy.length := by
          rw [← hcl0]
          simp [List.drop_append]
        rw [hnew] at hr
        rw [hrun _ _ (by rw [hxval, hyval]; exact hr)]
        obtain ⟨hcl, _⟩ := hst.own (k := Sum.inl s) hL
        have hno := (hcl (b, 0) (by simp [arrEnt])).2.2
        have hmem := setRow_mem w b (cs ++ rest).toArray ((cs ++ cy) ++ rest.drop cy.length).toArray E hb
        have hst1 : St B h (Sum.elim (set1 L s (arrEnt b E r (xs ++ ys) cap)) F) (w.setRow b ((cs ++ cy) ++ rest.drop cy.length).toArray) := by
          refine hst.write (Sum.inl s) (e := arrEnt b E r xs cap) hL (b := b) (lo := 0) (by simp [arrEnt]) hmem (fun i hi => setRow_other w b i _ hi) (by simp [World.setRow]) rfl rfl rfl ?_ set1_ne ?_
          · intro o' u hh; rw [hno o' (Nat.zero_le _)] at hh; cases hh
          · intro e' he
            rw [set1_eq he]
            refine ⟨fun c hc => hc, _, _, hmem, hr0.append hcy, ?_⟩
            simp; omega
        refine hnext _ h _ _ (Hle.refl h) trivial (hst1.mv s d) ?_
        rw [hd]
        exact upd_mv' (fun k hk => by simp [set1, hk]) hne (by simp [set1]) (.inr ⟨b, cap, by rw [gt_put_same (hdn d hd), List.length_append], by rw [List.length_append]; exact hroom, rfl⟩)
      · have hcl0 := hr0.len
        have hr := run_append_grow (P := P) w T o.type E i _ hT hi hzero ⟨b, 0, none⟩ xs.length cap cs (by rw [hr0.len, hsz]) (fun j u hj => by
          rw [Addr.add_mid, Nat.zero_add, cell?_eq _ _ _ _ _ _ hb]
          have hjl := (List.getElem?_eq_some_iff.1 hj).1
          simp only [List.getElem?_toArray]
          rw [List.getElem?_append_left hjl]; exact hj) ⟨by_, offy, none⟩ ys.length capy cy hcyl hnews (by omega) (by omega) (growslice_fits (by omega) hbytes)
        rw [hrun _ _ (by rw [hxval, hyval]; exact hr)]
        have hst' := hst.newArr E d (grownCap w (xs.length + ys.length) cap E) hr0 hcy (grownCap_ge w _ cap E)
        refine hnext _ h _ _ (Hle.refl h) trivial hst' ?_
        rw [hd]
        exact upd_set1' hne (.inr ⟨_, _, by rw [gt_put_same (hdn d hd), List.length_append], by rw [List.length_append]; exact grownCap_ge w _ cap E, rfl⟩)

/- a row that is not written any more -/
theorem At.freeze {κ : Type} {B : Base} {h0 : H} {Γ : Ctx} {Λ : Own} {F : κ → Option Ent} {n : Nat} {a : Act} {w : World} {E : TypeId} {r : Rep α} {xs : List α} (s : Nat) (hAt : At B h0 Γ Λ F n a w) (hs : Λ s = some (arrE E r xs)) :
    At B h0 (fun k => bif Nat.beq s k then fV (Rep.slice r) xs else Γ k) (fun k => bif Nat.beq s k then none else Λ k) F n a w := by
  obtain ⟨h, L, hle, hst, hOw, hsat, hsz, hdf⟩ := hAt
  obtain ⟨e, hL, ⟨hv, rfl, rfl⟩ | ⟨b, cap, hv, hc, rfl⟩⟩ := hOw s _ hs
  · refine ⟨h, L, hle, hst, fun k q hq => ?_, fun k => ?_, hsz, hdf⟩
    · cases hk : Nat.beq s k with
      | true => simp only [hk, cond_true] at hq; cases hq
      | false => simp only [hk, cond_false] at hq; exact hOw k q hq
    · cases hk : Nat.beq s k with
      | true =>
        rw [nbeq] at hk; subst hk
        show Fact.at (bif Nat.beq s s then _ else _) _ _ _
        rw [nbeq.2 rfl]
        exact val_slice.2 (.inl ⟨⟨none, hv⟩, rfl⟩)
      | false =>
        show Fact.at (bif Nat.beq s k then _ else _) _ _ _
        rw [hk]; exact hsat k
  obtain ⟨_, cs, rest, hb, hr, hlen⟩ := hst.own (k := Sum.inl s) hL
  have hb' : w.heap[b]? = some (.cells (cs ++ rest).toArray E (0, 0)) := hb
  obtain ⟨hl2, hst2⟩ := hst.freeze (Sum.inl s) (e := arrEnt b E r xs cap) hL (b := b) (lo := 0) (by simp [arrEnt]) hb' cs.length (by simp) (L' := Sum.elim (fun k => if k = s then none else L k) F) (by
    intro k' e' hne he
    cases k' with
    | inr k => exact he
    | inl k =>
      have : k ≠ s := fun x => hne (by rw [x])
      simpa [this] using he) (fun e' he => by simp at he)
  have htk : (cs ++ rest).toArray.toList.take cs.length = cs := by simp
  rw [htk] at hl2 hst2
  refine ⟨_, _, hle.trans hl2, hst2, ?_, ?_, hsz, hdf⟩
  · intro k q hq
    cases hk : Nat.beq s k with
    | true => simp only [hk, cond_true] at hq; cases hq
    | false =>
      simp only [hk, cond_false] at hq
      obtain ⟨e, he, hqe⟩ := hOw k q hq
      have : k ≠ s := fun x => by rw [nbeq.2 x.symm] at hk; cases hk
      exact ⟨e, by simp [this, he], hqe⟩
  · intro k
    cases hk : Nat.beq s k with
    | true =>
      rw [nbeq] at hk; subst hk
      show Fact.at (bif Nat.beq s s then _ else _) _ _ _
      rw [nbeq.2 rfl]
      refine val_slice.2 (.inr ⟨b, 0, cap, hv, hc, (hr.mono hl2).refs fun j v hj => ?_⟩)
      have hjl := (List.getElem?_eq_some_iff.1 hj).1
      rw [Nat.zero_add, hadd_new hjl, ← hj, List.getElem?_eq_getElem hjl]
    | false =>
      show Fact.at (bif Nat.beq s k then _ else _) _ _ _
      rw [hk]
      exact (Γ k).mono hl2 (hsat k)

/- cuts of slices that are only read -/
def slc (xs : List α) (lo hi : Int) : Option (List α) := bif decide (0 ≤ lo) && decide (lo ≤ hi) && decide (hi ≤ xs.length) then some ((xs.take hi.toNat).drop lo.toNat) else none
theorem slc_spec {xs ys : List α} {lo hi : Int} (h : slc xs lo hi = some ys) : 0 ≤ lo ∧ lo ≤ hi ∧ hi ≤ xs.length ∧ ys = (xs.take hi.toNat).drop lo.toNat := by
  unfold slc at h
  cases hb : (decide (0 ≤ lo) && decide (lo ≤ hi) && decide (hi ≤ xs.length)) with
  | true => rw [hb] at h; cases h; simp at hb; exact ⟨hb.1.1, hb.1.2, hb.2, rfl⟩
  | false => rw [hb] at h; cases h
def BndOk (N : List (Nat × Fact)) (dflt : Int) : Option Operand → Int → Prop
  | none, n => n = dflt
  | some x, n => ∃ k, OpdOk N x (fV (Rep.int k) n)
theorem bndN {N : List (Nat × Fact)} {d : Int} : BndOk N d none d := rfl
theorem bndS {N : List (Nat × Fact)} {d n : Int} {k : IntKind} {x : Operand} (h : OpdOk N x (fV (Rep.int k) n)) : BndOk N d (some x) n := ⟨k, h⟩

theorem run_slice {T E : TypeId} {r : Rep α} {h : H} {a : Act} {w : World} {lo hi : Option Operand} {l m : Int} {len cap : Nat} {base : Option Addr} (hT : P.underlying T = some (.slice E)) (t : TyOk P E r) (hn : NAll N h a) (hl : BndOk N 0 lo l) (hm : BndOk N len hi m)
    (h0 : 0 ≤ l) (h1 : l ≤ m) (h2 : m ≤ len) (hc : len ≤ cap) :
    (Instr.sliceAt T (.slice base len cap) (lo.map a.eval) (hi.map a.eval) none).run P w = .ok (.slice (if cap = l.toNat then base else base.map (·.add (l.toNat * r.sz))) (m.toNat - l.toNat) (cap - l.toNat)) w := by
  have hmc : 0 ≤ m ∧ m ≤ (cap : Int) := by omega
  have hlm : 0 ≤ l ∧ l ≤ ((m.toNat : Nat) : Int) := by omega
  have hll : 0 ≤ l ∧ l ≤ (len : Int) := by omega
  cases lo with
  | none =>
    have hl : l = 0 := hl
    subst hl
    cases hi with
    | none =>
      have hm : m = len := hm
      subst hm
      simp [Instr.sliceAt, Instr.slice, run_underlying hT, Instr.sliceBounds, t.size]
    | some y =>
      obtain ⟨k, hy⟩ := hm
      simp [Instr.sliceAt, Instr.slice, run_underlying hT, Instr.sliceBounds, Instr.sliceBound, asIntOf, val_int.1 (hy h a hn), hmc, t.size]
  | some x =>
    obtain ⟨k', hx⟩ := hl
    cases hi with
    | none =>
      have hm : m = len := hm
      subst hm
      simp [Instr.sliceAt, Instr.slice, run_underlying hT, Instr.sliceBounds, Instr.sliceBound, asIntOf, val_int.1 (hx h a hn), hll, t.size]
    | some y =>
      obtain ⟨k, hy⟩ := hm
      simp [Instr.sliceAt, Instr.slice, run_underlying hT, Instr.sliceBounds, Instr.sliceBound, asIntOf, val_int.1 (hy h a hn), val_int.1 (hx h a hn), hmc, hlm, t.size]; omega

theorem SlRel.cut {r : Rep α} {h : H} {v : Value} {xs : List α} {base : Option Addr} {cap : Nat} {l m : Nat} (k : SlRel r h v xs) (hv : v = .slice base xs.length cap) (h1 : l ≤ m) (h2 : m ≤ xs.length) :
    SlRel r h (.slice (if cap = l then base else base.map (·.add (l * r.sz))) (m - l) (cap - l)) ((xs.take m).drop l) := by
  have hlen : ((xs.take m).drop l).length = m - l := by rw [List.length_drop, List.length_take]; omega
  rcases k with ⟨⟨base', rfl⟩, rfl⟩ | ⟨b, off, cap', rfl, hc, hr⟩
  · cases hv
    have : m = 0 := by simpa using h2
    subst this
    have : l = 0 := by omega
    subst this
    exact .inl ⟨⟨base, by simp⟩, by simp⟩
  · cases hv
    refine .inr ⟨b, if cap = l then off else off + l * r.sz, cap - l, ?_, ?_, ?_⟩
    · rw [hlen]
      split
      · rfl
      · simp [Addr.add_mid]
    · rw [hlen]; omega
    · intro i x hx
      rw [List.getElem?_drop, List.getElem?_take] at hx
      split at hx
      · rename_i hlt
        have := hr _ _ hx
        rw [if_neg (by omega)]
        rwa [show off + l * r.sz + i * r.sz = off + (l + i) * r.sz by rw [Nat.add_mul, Nat.add_assoc]]
      · cases hx
theorem ok_slice {T E : TypeId} {r : Rep α} {x : Operand} {lo hi : Option Operand} {xs ys : List α} {l m : Int} (hq : slc xs l m = some ys) (t : TyOk P E r) (hT : P.underlying T = some (.slice E)) (ho : o.op = .slice T x lo hi none)
    (hx : OpdOk N x (fV (Rep.slice r) xs)) (hl : BndOk N 0 lo l) (hm : BndOk N xs.length hi m) : OpOk P o N [] (fV (Rep.slice r) ys) [] :=
  OpOk.ofRun fun h a w _ n => by
    obtain ⟨h0, h1, h2, rfl⟩ := slc_spec hq
    have k := val_slice.1 (hx h a n)
    obtain ⟨base, cap, hv, hc⟩ := k.le
    have hrun := run_slice (w := w) (base := base) hT t n hl hm h0 h1 h2 hc
    refine ⟨_, by simp only [execOp, ho, hv, Option.map_none, Sem.run_bind, hrun, Result.andThen_ok, Sem.run_pure], val_slice.2 (k.cut hv (by omega) (by omega))⟩
/- the cut of a slice that may be appended to, up to its end, may be appended to -/
theorem ok_sliceTip {T E : TypeId} {r : Rep α} {s d : Nat} {lo : Option Operand} {xs ys : List α} {l : Int} (hq : slc xs l xs.length = some ys) (t : TyOk P E r) (hT : P.underlying T = some (.slice E)) (hsd : Nat.beq s d = false) (hd : o.dst = some d) (ho : o.op = .slice T (.tmp s) lo none none)
    (hx : OpdOk N (.tmp s) (fV (Rep.slice r) xs)) (hl : BndOk N 0 lo l) : OpOk P o N [(s, tipE E r.sz)] (fV (Rep.slice r) ys) [(s, none), (d, some (tipE E r.sz))] := by
  obtain ⟨h0, h1, h2, rfl⟩ := slc_spec hq
  have hne : s ≠ d := fun x => by rw [nbeq.2 x] at hsd; cases hsd
  intro κ B F L h a w hst hn hk hdn next Q hnext
  obtain ⟨e, hL, hq'⟩ := hk.1
  have hL : L s = some e := hL
  have hq' : tipE E r.sz (a.gt s) e := hq'
  have k : SlRel r h (a.gt s) xs := val_slice.1 (hx h a hn)
  obtain ⟨base, cap, hv, hc⟩ := k.le
  have hrun := run_slice (w := w) (base := base) hT t hn hl (bndN (d := (xs.length : Int))) h0 h1 h2 hc
  unfold Oper.wp
  have hv' : a.eval (.tmp s) = .slice base xs.length cap := hv
  have := (show (execOp a.eval o).run P w = .ok (.value _) w by
    simp only [execOp, ho, hv', Option.map_none, Sem.run_bind]
    rw [Option.map_none] at hrun
    rw [hrun]; rfl)
  rw [this]
  have hfin := val_slice.2 (k.cut (l := l.toNat) (m := ((xs.length : Int)).toNat) hv (by omega) (by omega))
  have hnil : St B h (Sum.elim (set1 L s nilEnt) F) w := by
    refine hst.step (Sum.inl s) (fun _ => False) (fun b hb => hb.elim) (Nat.le_refl _) rfl rfl rfl (fun _ _ _ => rfl) (Hle.refl h) (fun _ _ _ _ => rfl) ?_ set1_ne ?_
    · rintro b o' v (hb | hb) hv
      · exact hb.elim
      · rw [hst.fresh hb] at hv; cases hv
    · intro e' he; rw [set1_eq he]; exact ⟨fun c hc => (by cases hc), trivial⟩
  by_cases hfull : cap = xs.length
  · refine hnext _ h w _ (Hle.refl h) hfin (hnil.mv s d) ?_
    rw [hd]
    refine upd_mv' (e := nilEnt) (fun k hk => by simp [set1, hk]) hne (by simp [set1]) ?_
    rw [gt_put_same (hdn d hd), hfull, Int.toNat_natCast]
    exact .inl ⟨_, _, rfl, rfl⟩
  · refine hnext _ h w _ (Hle.refl h) hfin (hst.mv s d) ?_
    rw [hd]
    refine upd_mv hne hL ?_
    rw [gt_put_same (hdn d hd)]
    rcases hq' with ⟨base', len, h3, rfl⟩ | ⟨b, off, len, cap', h3, rfl⟩
    · rw [hv] at h3
      injection h3 with _ h4 h5
      omega
    · rw [hv] at h3; cases h3
      refine .inr ⟨b, off + l.toNat * r.sz, xs.length - l.toNat, cap - l.toNat, ?_, ?_⟩
      · rw [if_neg (by omega)]; simp [Addr.add_mid]
      · have e1 : off + xs.length * r.sz = off + l.toNat * r.sz + (xs.length - l.toNat) * r.sz := by
          rw [Nat.add_assoc, ← Nat.add_mul]; congr 2; omega
        have e2 : off + cap * r.sz = off + l.toNat * r.sz + (cap - l.toNat) * r.sz := by
          rw [Nat.add_assoc, ← Nat.add_mul]; congr 2; omega
        rw [e1, e2]
end Go.KB
