/- Functions that write what the caller owns: a row, a part of a row, a variable. No condition. -/
import Derived.Test.YtbedbjphickpaaaKFun
namespace Go.KB
variable {P : Program} {o : Oper} {N : List (Nat × Fact)} {f : Fact} {α β : Type}

/- a part of a row: where it lies, what lies before and behind it -/
structure SegK where
  b : Nat
  cap : Nat
  pre : List Value
  post : List Value
def segEnt (K : SegK) (E : TypeId) (r : Rep α) (xs : List α) : Ent where
  claims := [(K.b, 0)]
  ok := fun h m => ∃ cs, m K.b = some (.cells (K.pre ++ cs ++ K.post).toArray E (0, 0)) ∧ RelL r h cs xs
  mono := by rintro h h' m hl ⟨cs, e, k⟩; exact ⟨cs, e, k.mono hl⟩
  frame := fun hm ⟨cs, e, k⟩ => ⟨cs, by rw [hm (K.b, 0) (by simp)]; exact e, k⟩
def segE (K : Option SegK) (E : TypeId) (r : Rep α) (xs : List α) : OwnP := fun v e =>
  match K with
  | none => v = .slice none 0 0 ∧ xs = [] ∧ e = nilEnt
  | some K => v = .slice (some ⟨K.b, K.pre.length, none⟩) xs.length K.cap ∧ xs.length ≤ K.cap ∧ e = segEnt K E r xs
def fElS (s off : Nat) : Fact := ⟨some s, fun _ d v => ∃ b p len cap, d = .slice (some ⟨b, p, none⟩) len cap ∧ v = .pointer (some ⟨b, p + off, none⟩), fun _ x => x⟩

theorem ok_lenSeg {K : Option SegK} {T E E' : TypeId} {r : Rep α} {s : Nat} {x : Operand} {xs : List α} (hT : P.underlying T = some (.slice E')) (ho : o.op = .call { callee := .builtin .len, args := #[x], argTypes := #[T] }) (hx : OpdOk N x (fCp s)) :
    OpOk P o N [(s, segE K E r xs)] (fV (Rep.int .i64) (xs.length : Int)) [] := by
  intro κ B F L h a w hst hn hk _ next Q hnext
  obtain ⟨e, _, hq⟩ := hk.1
  have hx' : a.eval x = a.gt s := hx h a hn
  have : (execOp a.eval o).run P w = .ok (.value (.int .i64 (xs.length : Int))) w := by
    cases K with
    | none =>
      obtain ⟨hv, rfl, _⟩ := hq
      have hv' : a.gt s = _ := hv
      simp [execOp, ho, resolve, invoke, builtin, Builtin.len_, hx', hv', run_underlying hT, goInt]
    | some K =>
      obtain ⟨hv, _, _⟩ := hq
      have hv' : a.gt s = _ := hv
      simp [execOp, ho, resolve, invoke, builtin, Builtin.len_, hx', hv', run_underlying hT, goInt]
  unfold Oper.wp
  rw [this]
  exact hnext _ h w L (Hle.refl h) (val_int.2 rfl) hst upd_nil
theorem ok_elSeg {K : Option SegK} {T E : TypeId} {r : Rep α} {s : Nat} {k : IntKind} {x i : Operand} {xs : List α} {n : Int} {y : α} (hq : idx xs n = some y) (t : TyOk P E r) (hT : P.underlying T = some (.slice E)) (ho : o.op = .indexAddr T x i) (hx : OpdOk N x (fCp s)) (hi : OpdOk N i (fV (Rep.int k) n)) :
    OpOk P o N [(s, segE K E r xs)] (fElS s (n.toNat * r.sz)) [] := by
  obtain ⟨h0, h1, _⟩ := idx_spec hq
  intro κ B F L h a w hst hn hk _ next Q hnext
  obtain ⟨e, _, hq⟩ := hk.1
  cases K with
  | none => obtain ⟨_, rfl, _⟩ := hq; exact absurd h1 (Nat.not_lt_zero _)
  | some K =>
    obtain ⟨hv, _, _⟩ := hq
    have hx' : a.eval x = a.gt s := hx h a hn
    have hv' : a.gt s = _ := hv
    unfold Oper.wp
    have hb : 0 ≤ n ∧ n < xs.length := by omega
    have : (execOp a.eval o).run P w = .ok (.value (.pointer (some ⟨K.b, K.pre.length + n.toNat * r.sz, none⟩))) w := by
      simp [execOp, ho, hx', hv', val_int.1 (hi h a hn), Instr.indexAt, asIntOf, run_underlying hT, hb, t.size, Addr.add_mid]
    rw [this]
    exact hnext _ h w L (Hle.refl h) ⟨K.b, _, _, K.cap, hv', rfl⟩ hst upd_nil
theorem ok_fieldElS {T : TypeId} {s i off off' : Nat} {x : Operand} (hf : FieldOk P T i off) (ho : o.op = .fieldAddr T x i) (hx : OpdOk N x (fElS s off')) : OpOk P o N [] (fElS s (off' + off)) [] :=
  OpOk.ofRun fun h a w _ q => by
    obtain ⟨b, p, len, cap, hd, hv⟩ := hx h a q
    exact ⟨.pointer (some ⟨b, p + (off' + off), none⟩), by simp [execOp, ho, hv, hf b _ w, Nat.add_assoc], b, p, len, cap, hd, rfl⟩
theorem seg_at {κ : Type} {B : Base} {h : H} {L : Nat → Option Ent} {F : κ → Option Ent} {w : World} (hst : St B h (Sum.elim L F) w) {s : Nat} {K : SegK} {E : TypeId} {r : Rep α} {xs : List α}
    (hk : L s = some (segEnt K E r xs)) : ∃ cs, w.heap[K.b]? = some (.cells (K.pre ++ cs ++ K.post).toArray E (0, 0)) ∧ RelL r h cs xs := (hst.own (k := Sum.inl s) hk).2
theorem ok_loadSeg {K : Option SegK} {T E : TypeId} {r : Rep α} {q : Rep β} {s off m : Nat} {x : Operand} {xs : List α} {y : α} {get : α → β} {set : α → β → α} (hy : xs[m]? = some y) (l : Lens r q off get set) (t : TyOk P T q) (ho : o.op = .load T x) (hx : OpdOk N x (fElS s (m * r.sz + off))) :
    OpOk P o N [(s, segE K E r xs)] (fV q (get y)) [] := by
  intro κ B F L h a w hst hn hk _ next Q hnext
  obtain ⟨b, pp, len, cap, hd, hv⟩ := hx h a hn
  have hd' : a.gt s = _ := hd
  obtain ⟨e, hL, hq⟩ := hk.1
  cases K with
  | none => obtain ⟨hv', _⟩ := hq; rw [hd'] at hv'; cases hv'
  | some K =>
    obtain ⟨hv', hc, rfl⟩ := hq
    rw [hd'] at hv'; cases hv'
    obtain ⟨cs, hb, hr⟩ := seg_at hst hL
    obtain ⟨p, c, q', rfl, hp, hcr, _⟩ := hr.get hy
    obtain ⟨p2, c2, q2, rfl, hp2, hc2, _⟩ := l h c y hcr
    unfold Oper.wp
    have hrun := run_load_cells (b := K.b) (off := K.pre.length + (m * r.sz + off)) (w := w) t (q.len hc2) (fun j v hj => by
      rw [cell?_eq _ _ _ _ _ _ hb]
      have hjl := (List.getElem?_eq_some_iff.1 hj).1
      simp only [List.getElem?_toArray]
      rw [show K.pre ++ (p ++ (p2 ++ c2 ++ q2) ++ q') ++ K.post = (K.pre ++ p ++ p2) ++ (c2 ++ (q2 ++ q' ++ K.post)) by simp, List.getElem?_append_right (by simp; omega)]
      rw [show K.pre.length + (m * r.sz + off) + j - (K.pre ++ p ++ p2).length = j by simp; omega, List.getElem?_append_left hjl]; exact hj)
    have : (execOp a.eval o).run P w = .ok (.value (pack q.agg c2)) w := by simp [execOp, ho, hv, hrun]
    rw [this]
    exact hnext _ h w L (Hle.refl h) ⟨c2, hc2, rfl⟩ hst upd_nil
theorem ok_storeSeg {K : Option SegK} {T E : TypeId} {r : Rep α} {q : Rep β} {s off m : Nat} {x v : Operand} {xs : List α} {y : α} {z : β} {get : α → β} {set : α → β → α} {xs' : List α} (hy : xs[m]? = some y) (l : Lens r q off get set) (t : TyOk P T q) (hd : o.dst = none) (ho : o.op = .store T x v)
    (hx : OpdOk N x (fElS s (m * r.sz + off))) (hv : OpdOk N v (fV q z)) (hs' : xs' = xs.set m (set y z)) : OpOk P o N [(s, segE K E r xs)] Fact.triv [(s, some (segE K E r xs'))] := by
  subst hs'
  intro κ B F L h a w hst hn hk _ next Q hnext
  obtain ⟨b, pp, len, cap, hdv, hxv⟩ := hx h a hn
  have hd' : a.gt s = _ := hdv
  obtain ⟨e, hL, hq⟩ := hk.1
  cases K with
  | none => obtain ⟨hv', _⟩ := hq; rw [hd'] at hv'; cases hv'
  | some K =>
    obtain ⟨hv', hc, rfl⟩ := hq
    rw [hd'] at hv'; cases hv'
    obtain ⟨cs, hb, hr⟩ := seg_at hst hL
    obtain ⟨c', hc', hvv⟩ := hv h a hn
    obtain ⟨p, c, q', rfl, hp, hcr, hset⟩ := hr.get hy
    obtain ⟨p2, c2, q2, rfl, hp2, hc2, hset2⟩ := l h c y hcr
    have hsh : K.pre ++ (p ++ (p2 ++ c2 ++ q2) ++ q') ++ K.post = (K.pre ++ p ++ p2) ++ c2 ++ (q2 ++ q' ++ K.post) := by simp
    have hsh' : (K.pre ++ p ++ p2) ++ c' ++ (q2 ++ q' ++ K.post) = K.pre ++ (p ++ (p2 ++ c' ++ q2) ++ q') ++ K.post := by simp
    have hb0 := hb
    rw [hsh] at hb
    have hrun := run_store_cells t hc' hb (q.len hc2)
    unfold Oper.wp
    have hpl : (K.pre ++ p ++ p2).length = K.pre.length + (m * r.sz + off) := by simp; omega
    have : (execOp a.eval o).run P w = .ok .skip (w.setRow K.b ((K.pre ++ p ++ p2) ++ c' ++ (q2 ++ q' ++ K.post)).toArray) := by
      simp only [execOp, ho, hxv, hvv, ← hpl, Sem.run_bind, hrun, Result.andThen_ok, Sem.run_pure]
    rw [this, hsh']
    obtain ⟨hcl, _⟩ := hst.own (k := Sum.inl s) hL
    have hno := (hcl (K.b, 0) (by simp [segEnt])).2.2
    have hrel := hset h _ _ (Hle.refl h) (hset2 h c' z (Hle.refl h) hc')
    have hmem := setRow_mem w K.b (K.pre ++ (p ++ (p2 ++ c2 ++ q2) ++ q') ++ K.post).toArray (K.pre ++ (p ++ (p2 ++ c' ++ q2) ++ q') ++ K.post).toArray E hb0
    refine hnext undef h _ (set1 L s (segEnt K E r (xs.set m (set y z)))) (Hle.refl h) trivial ?_ ?_
    · refine hst.write (Sum.inl s) (e := segEnt K E r xs) hL (b := K.b) (lo := 0) (by simp [segEnt]) hmem (fun i hi => setRow_other w K.b i _ hi) (by simp [World.setRow]) rfl rfl rfl ?_ set1_ne ?_
      · intro o' u hh; rw [hno o' (Nat.zero_le _)] at hh; cases hh
      · intro e' he
        rw [set1_eq he]
        exact ⟨fun c hc => hc, _, hmem, hrel⟩
    · rw [hd]
      exact upd_set1 ⟨by rw [List.length_set]; exact hd', by rw [List.length_set]; exact hc, rfl⟩

/- a slice into a row -/
def fSub (s sz lo len : Nat) : Fact := ⟨some s, fun _ d v => (d = .slice none 0 0 ∧ v = .slice none 0 0 ∧ len = 0) ∨
  ∃ b p L cap, d = .slice (some ⟨b, p, none⟩) L cap ∧ lo + len ≤ L ∧ v = .slice (some ⟨b, if cap = lo then p else p + lo * sz, none⟩) len (cap - lo), fun _ x => x⟩
theorem ok_subArr {T E : TypeId} {r : Rep α} {s : Nat} {x : Operand} {lo hi : Option Operand} {xs ys : List α} {l m : Int} (hq : slc xs l m = some ys) (t : TyOk P E r) (hT : P.underlying T = some (.slice E)) (ho : o.op = .slice T x lo hi none) (hx : OpdOk N x (fCp s))
    (hl : BndOk N 0 lo l) (hm : BndOk N xs.length hi m) : OpOk P o N [(s, arrE E r xs)] (fSub s r.sz l.toNat (m.toNat - l.toNat)) [] := by
  obtain ⟨h0, h1, h2, rfl⟩ := slc_spec hq
  intro κ B F L h a w hst hn hk _ next Q hnext
  obtain ⟨e, _, hq⟩ := hk.1
  have hx' : a.eval x = a.gt s := hx h a hn
  unfold Oper.wp
  rcases hq with ⟨hv, rfl, _⟩ | ⟨b, cap, hv, hc, _⟩
  · have hv' : a.gt s = _ := hv
    have hrun := run_slice (w := w) (base := none) (cap := 0) hT t hn hl hm h0 h1 h2 (Nat.le_refl _)
    have hm0 : m.toNat = 0 := by simp at h2; omega
    have hl0 : l.toNat = 0 := by omega
    rw [hm0, hl0] at hrun
    have : (execOp a.eval o).run P w = .ok (.value (.slice none 0 0)) w := by
      simp only [execOp, ho, hx', hv', Option.map_none, Sem.run_bind] at hrun ⊢
      simp only [List.length_nil] at hrun
      rw [hrun]; simp
    rw [this]
    exact hnext _ h w L (Hle.refl h) (.inl ⟨hv', rfl, by omega⟩) hst upd_nil
  · have hv' : a.gt s = _ := hv
    have hrun := run_slice (w := w) (base := some ⟨b, 0, none⟩) hT t hn hl hm h0 h1 h2 hc
    have : (execOp a.eval o).run P w = .ok (.value (.slice (some ⟨b, if cap = l.toNat then 0 else 0 + l.toNat * r.sz, none⟩) (m.toNat - l.toNat) (cap - l.toNat))) w := by
      simp only [execOp, ho, hx', hv', Option.map_none, Sem.run_bind] at hrun ⊢
      rw [hrun]
      simp only [Result.andThen_ok, Sem.run_pure]
      congr 3
      split
      · rfl
      · simp [Addr.add_mid]
    rw [this]
    exact hnext _ h w L (Hle.refl h) (.inr ⟨b, 0, _, cap, hv', by omega, rfl⟩) hst upd_nil

/- the same memory under another entry -/
theorem St.swap {κ : Type} {B : Base} {h : H} {L : Nat → Option Ent} {F : κ → Option Ent} {w : World} (hst : St B h (Sum.elim L F) w) {s : Nat} {e e' : Ent} (hL : L s = some e)
    (hcl : ∀ c ∈ e'.claims, ∃ c0 ∈ e.claims, c0.1 = c.1 ∧ c0.2 ≤ c.2) (hok : e'.ok h (World.mem w)) : St B h (Sum.elim (set1 L s e') F) w := by
  obtain ⟨hcl0, _⟩ := hst.own (k := Sum.inl s) hL
  refine hst.step (Sum.inl s) (fun _ => False) (fun _ hb => hb.elim) (Nat.le_refl _) rfl rfl rfl (fun _ _ _ => rfl) (Hle.refl h) (fun _ _ _ _ => rfl) ?_ set1_ne ?_
  · rintro b o' v (hb | hb) hv
    · exact hb.elim
    · rw [hst.fresh hb] at hv; cases hv
  · intro e1 he
    rw [set1_eq he]
    refine ⟨fun c hc => ?_, hok⟩
    obtain ⟨c0, hc0, h1, h2⟩ := hcl c hc
    obtain ⟨_, h3, h4⟩ := hcl0 c0 hc0
    exact ⟨.inr ⟨_, hL, c0, hc0, h1⟩, by omega, fun o ho => by rw [← h1]; exact h4 o (by omega)⟩
theorem set1_self {L : Nat → Option Ent} {s : Nat} {e : Ent} (hL : L s = some e) : set1 L s e = L := by
  funext k; unfold set1; split
  · rename_i hk; rw [hk, hL]
  · rfl
theorem set1_set1 {L : Nat → Option Ent} {s : Nat} {e e' : Ent} : set1 (set1 L s e) s e' = set1 L s e' := by
  funext k; unfold set1; split <;> rfl
theorem set1_at {L : Nat → Option Ent} {s : Nat} {e : Ent} : set1 L s e s = some e := by simp [set1]

/- what is owned, lent as something else -/
def Borrow (s : Nat) (fx : Fact) (q0 q0' : OwnP) {ι : Type} (q q' : ι → OwnP) : Prop :=
  ∀ (κ : Type) (B : Base) (F : κ → Option Ent) (L : Nat → Option Ent) (h : H) (w : World) (d v : Value) (e : Ent), St B h (Sum.elim L F) w → L s = some e → q0 d e → fx.p h d v →
    ∃ k x, q k v x ∧ St B h (Sum.elim (set1 L s x) F) w ∧ ∀ (h' : H) (w' : World) (x' : Ent), Hle h h' → q' k v x' → St B h' (Sum.elim (set1 L s x') F) w' → ∃ e', q0' d e' ∧ St B h' (Sum.elim (set1 L s e') F) w'
theorem Borrow.cp {s : Nat} {q0 q0' : OwnP} : Borrow s (fCp s) q0 q0' (fun _ : Unit => q0) (fun _ => q0') := by
  intro κ B F L h w d v e hst hL hq hv
  have hv : v = d := hv
  subst hv
  exact ⟨(), e, hq, by rw [set1_self hL]; exact hst, fun h' w' x' hle' hq' hst' => ⟨x', hq', hst'⟩⟩
theorem Borrow.arr {s : Nat} {E : TypeId} {r : Rep α} {xs xs' : List α} : Borrow s (fCp s) (arrE E r xs) (arrE E r xs') (fun K : Option SegK => segE K E r xs) (fun K => segE K E r xs') := by
  intro κ B F L h w d v e hst hL hq hv
  have hv : v = d := hv
  subst hv
  rcases hq with ⟨hv, rfl, rfl⟩ | ⟨b, cap, hv, hc, rfl⟩
  · refine ⟨none, nilEnt, ⟨hv, rfl, rfl⟩, by rw [set1_self hL]; exact hst, fun h' w' x' hle' hq' hst' => ⟨x', ?_, hst'⟩⟩
    obtain ⟨h1, h2, h3⟩ := hq'
    exact .inl ⟨h1, h2, h3⟩
  · obtain ⟨cs, rest, hb, hr, hlen⟩ := arr_at hst hL
    refine ⟨some ⟨b, cap, [], rest⟩, segEnt ⟨b, cap, [], rest⟩ E r xs, ⟨by simpa using hv, hc, rfl⟩,
      hst.swap hL (fun c hc => ⟨c, by simpa [segEnt, arrEnt] using hc, rfl, Nat.le_refl _⟩) ⟨cs, by simpa [World.mem] using hb, hr⟩, fun h' w' x' hle' hq' hst' => ?_⟩
    obtain ⟨h1, h2, rfl⟩ := hq'
    obtain ⟨cs', hb', hr'⟩ := seg_at hst' set1_at
    have hl : xs'.length = xs.length := by rw [hv] at h1; injection h1 with _ h3 _; exact h3.symm
    refine ⟨arrEnt b E r xs' cap, .inr ⟨b, cap, by rw [hl]; exact hv, by omega, rfl⟩, ?_⟩
    have := hst'.swap (e' := arrEnt b E r xs' cap) set1_at (fun c hc => ⟨c, by simpa [segEnt, arrEnt] using hc, rfl, Nat.le_refl _⟩) ⟨cs', rest, by simpa [World.mem] using hb', hr', by
      rw [← hlen, List.length_append, List.length_append, hr'.len, hr.len, hl]⟩
    rwa [set1_set1] at this
theorem RelL.split {r : Rep α} {h : H} : ∀ {xs : List α} {cs : List Value} (n : Nat), RelL r h cs xs → n ≤ xs.length → ∃ c d, cs = c ++ d ∧ RelL r h c (xs.take n) ∧ RelL r h d (xs.drop n) := by
  intro xs
  induction xs with
  | nil => intro cs n k hn; exact ⟨[], cs, rfl, by simp [RelL], by simpa using k⟩
  | cons x xs ih =>
    intro cs n k hn
    cases n with
    | zero => exact ⟨[], cs, rfl, rfl, k⟩
    | succ n =>
      obtain ⟨c, d, rfl, hc, hd⟩ := k
      obtain ⟨c', d', rfl, hc', hd'⟩ := ih n hd (by simpa using hn)
      exact ⟨c ++ c', d', by simp, ⟨c, c', rfl, hc, hc'⟩, hd'⟩
theorem Borrow.arrSub {s lo len : Nat} {E : TypeId} {r : Rep α} {xs ys' : List α} : Borrow s (fSub s r.sz lo len) (arrE E r xs) (arrE E r (xs.take lo ++ ys' ++ xs.drop (lo + len))) (fun K : Option SegK => segE K E r ((xs.drop lo).take len)) (fun K => segE K E r ys') := by
  intro κ B F L h w d v e hst hL hq hv
  rcases hv with ⟨hd, hv, hlen0⟩ | ⟨b, p, L0, cap, hd, hle, hv⟩
  · rcases hq with ⟨hd', rfl, rfl⟩ | ⟨b, cap, hd', _, _⟩
    · refine ⟨none, nilEnt, ⟨hv, by simp, rfl⟩, by rw [set1_self hL]; exact hst, fun h' w' x' hle' hq' hst' => ⟨x', ?_, hst'⟩⟩
      obtain ⟨h1, rfl, h3⟩ := hq'
      exact .inl ⟨hd, by simp, h3⟩
    · rw [hd] at hd'; cases hd'
  · rcases hq with ⟨hd', _, _⟩ | ⟨b', cap', hd', hc, rfl⟩
    · rw [hd] at hd'; cases hd'
    rw [hd] at hd'; cases hd'
    obtain ⟨cs, rest, hb, hr, hlen⟩ := arr_at hst hL
    have hyl : ((xs.drop lo).take len).length = len := by rw [List.length_take, List.length_drop]; omega
    by_cases hcl : cap = lo
    · have hl0 : len = 0 := by omega
      subst hl0
      rw [if_pos hcl] at hv
      refine ⟨some ⟨b, cap - lo, [], cs ++ rest⟩, segEnt ⟨b, cap - lo, [], cs ++ rest⟩ E r ((xs.drop lo).take 0), ⟨by simpa using hv, by simp, rfl⟩,
        hst.swap hL (fun c hc => ⟨c, by simpa [segEnt, arrEnt] using hc, rfl, Nat.le_refl _⟩) ⟨[], by simpa [World.mem] using hb, by simp [RelL]⟩, fun h' w' x' hle' hq' hst' => ?_⟩
      obtain ⟨h1, h2, rfl⟩ := hq'
      have hy0 : ys' = [] := by
        rw [hv] at h1; injection h1 with _ h3 _; exact List.eq_nil_of_length_eq_zero h3.symm
      subst hy0
      obtain ⟨cs', hb', hr'⟩ := seg_at hst' set1_at
      have hcs' : cs' = [] := hr'
      subst hcs'
      rw [Nat.add_zero, List.append_nil, List.take_append_drop]
      refine ⟨arrEnt b E r xs cap, .inr ⟨b, cap, hd, hc, rfl⟩, ?_⟩
      have := hst'.swap (e' := arrEnt b E r xs cap) set1_at (fun c hc => ⟨c, by simpa [segEnt, arrEnt] using hc, rfl, Nat.le_refl _⟩) ⟨cs, rest, by simpa [World.mem] using hb', hr.mono hle', hlen⟩
      rwa [set1_set1] at this
    · rw [if_neg hcl, Nat.zero_add] at hv
      obtain ⟨c1, cs2, rfl, hr1, hr2⟩ := hr.split lo (by omega)
      obtain ⟨c2, c3, rfl, hr2, hr3⟩ := hr2.split len (by rw [List.length_drop]; omega)
      have hl1 : c1.length = lo * r.sz := by rw [hr1.len, List.length_take]; congr 1; omega
      refine ⟨some ⟨b, cap - lo, c1, c3 ++ rest⟩, segEnt ⟨b, cap - lo, c1, c3 ++ rest⟩ E r ((xs.drop lo).take len), ⟨by rw [hyl]; simp only [hl1]; exact hv, by rw [hyl]; simp only []; omega, rfl⟩,
        hst.swap hL (fun c hc => ⟨c, by simpa [segEnt, arrEnt] using hc, rfl, Nat.le_refl _⟩) ⟨c2, by simpa [World.mem] using hb, hr2⟩, fun h' w' x' hle' hq' hst' => ?_⟩
      obtain ⟨h1, h2, rfl⟩ := hq'
      obtain ⟨cs', hb', hr'⟩ := seg_at hst' set1_at
      have hl : ys'.length = len := by rw [hv] at h1; injection h1 with _ h3 _; exact h3.symm
      have htot : (xs.take lo ++ ys' ++ xs.drop (lo + len)).length = xs.length := by
        rw [List.length_append, List.length_append, List.length_take, List.length_drop]; omega
      rw [List.drop_drop] at hr3
      have hrel := ((hr1.mono hle').append hr').append (hr3.mono hle')
      refine ⟨arrEnt b E r (xs.take lo ++ ys' ++ xs.drop (lo + len)) cap, .inr ⟨b, cap, by rw [htot]; exact hd, by rw [htot]; exact hc, rfl⟩, ?_⟩
      have := hst'.swap (e' := arrEnt b E r (xs.take lo ++ ys' ++ xs.drop (lo + len)) cap) set1_at (fun c hc => ⟨c, by simpa [segEnt, arrEnt] using hc, rfl, Nat.le_refl _⟩) ⟨(c1 ++ cs') ++ c3, rest, by simpa [World.mem] using hb', hrel, by
        rw [← hlen]
        have := hr'.len; have := hr2.len
        rw [hyl] at this
        simp only [List.length_append]
        rw [hr'.len, hl, hr2.len, hyl]; omega⟩
      rwa [set1_set1] at this

/- functions with one argument that they may write -/
def fIs (v : Value) : Fact := ⟨none, fun _ _ u => u = v, fun _ x => x⟩
def FnOkM (P : Program) (f : FuncId) (args : List Fact) (i : Nat) (q q' : OwnP) (post : Fact) : Prop :=
  ∀ (κ : Type) (B : Base) (L : κ → Option Ent) (h : H) (w : World) (vs : List Value) (x : Ent) (v : Value), St B h (Sum.elim (fun _ : Unit => some x) L) w → args.length = vs.length → vs[i]? = some v → q v x →
    (∀ (j : Nat) (g : Fact) (u : Value), args[j]? = some g → vs[j]? = some u → g.p h undef u) →
    Calls P f vs.toArray w (fun e w' => ∃ u h' x', e = .returned u ∧ Hle h h' ∧ St B h' (Sum.elim (fun _ : Unit => some x') L) w' ∧ post.p h' undef u ∧ q' v x')
def RetPostM (P : Program) (fn : Func) {κ : Type} (B : Base) (h0 : H) (F : κ → Option Ent) (v : Value) (q' : OwnP) (post : Fact) : Exit → Act → World → Prop :=
  bodyPost P fn (fun e w' => ∃ u h' x', e = .returned u ∧ Hle h0 h' ∧ St B h' (Sum.elim (fun _ : Unit => some x') F) w' ∧ post.p h' undef u ∧ q' v x')
theorem St.enter {κ : Type} {B : Base} {h : H} {F : κ → Option Ent} {w : World} {x : Ent} (i : Nat) (hst : St B h (Sum.elim (fun _ : Unit => some x) F) w) : St B h (Sum.elim (fun k => if k = i then some x else none) F) w := by
  refine hst.reind (fun k => match k with | .inl _ => .inl () | .inr k => .inr k) ?_ ?_
  · intro k e hk
    cases k with
    | inl k =>
      simp only [Sum.elim_inl] at hk
      split at hk
      · exact hk
      · cases hk
    | inr k => exact hk
  · intro k k' e e' hk hk' hne
    cases k with
    | inl k => cases k' with
      | inl k' =>
        simp only [Sum.elim_inl] at hk hk'
        split at hk <;> split at hk'
        · rename_i h1 h2; exact absurd (by rw [h1, h2]) hne
        · cases hk'
        · cases hk
        · cases hk
      | inr k' => intro he; cases he
    | inr k => cases k' with
      | inl k' => intro he; cases he
      | inr k' => intro he; exact hne (by rw [Sum.inr.inj he])
theorem fn_enterM {n : Nat} {f : FuncId} {fn : Func} {c : Code} {args : List Fact} {i : Nat} {q q' : OwnP} {post : Fact} (hf : P.funcs[f]? = some fn) (hb : fn.body = some c) (hn : fn.ntmps = n) (hchk : (Nat.ble args.length n && depNone args) = true)
    (hwp : ∀ (κ : Type) (B : Base) (h0 : H) (F : κ → Option Ent) (a : Act) (w : World) (vM : Value), At B h0 (mkG ((i, fIs vM) :: argG 0 args)) (mkO [(i, q)]) F n a w → c.wp P (RetPostM P fn B h0 F vM q' post) a w) : FnOkM P f args i q q' post := by
  intro κ B L h w vs x v hst hl hvi hq hargs
  rw [Bool.and_eq_true, Nat.ble_eq] at hchk
  obtain ⟨hlen, hdp⟩ := hchk
  have hdep := depNone_spec hdp
  have hget : ∀ (j : Nat) u, vs[j]? = some u → Act.gt { tmps := vs.toArray ++ Array.replicate (fn.ntmps - vs.toArray.size) undef, defers := [] } j = u := by
    intro j u hu
    have hj := (List.getElem?_eq_some_iff.1 hu).1
    simp only [Act.gt, Array.getD_eq_getD_getElem?]
    rw [Array.getElem?_append_left (by simpa using hj)]
    simp [hu]
  refine calls_of_wp hf hb (hwp _ B h L _ w v ⟨h, _, Hle.refl h, hst.enter i, ?_, ?_, ?_, rfl⟩)
  · intro s q1 hs
    simp only [mkO, lkO] at hs
    cases hk : Nat.beq i s with
    | true =>
      rw [hk] at hs; cases hs
      rw [nbeq] at hk; subst hk
      exact ⟨x, by simp, by rw [hget _ _ hvi]; exact hq⟩
    | false => rw [hk] at hs; cases hs
  · intro s
    show (bif Nat.beq i s then _ else lkF (argG 0 args) s).at _ _ _
    cases hk : Nat.beq i s with
    | true =>
      rw [nbeq] at hk; subst hk
      exact hget _ _ hvi
    | false =>
      rw [cond_false]
      rcases argG_spec args 0 s with h1 | ⟨j, g, h1, h2, h3⟩
      · rw [h1]; exact trivial
      · rw [h3]
        have hj := (List.getElem?_eq_some_iff.1 h1).1
        have hv : vs[j]? = some vs[j] := List.getElem?_eq_getElem (by omega)
        have := hargs j g _ h1 hv
        unfold Fact.at Fact.dv
        rw [hdep g (List.mem_of_getElem? h1), h2, Nat.zero_add, hget _ _ hv]
        exact this
  · simp; omega
section
variable {κ : Type} {B : Base} {h h0 : H} {L : Nat → Option Ent} {Γ : Ctx} {Λ : Own} {F : κ → Option Ent} {n : Nat} {a : Act} {w : World} {q : OwnP} {i : Nat} {v : Value}
theorem At.own1 (hi : Γ i = fIs v) (hs : Λ i = some q) (hAt : At B h0 Γ Λ F n a w) : ∃ h L x, Hle h0 h ∧ St B h (Sum.elim L F) w ∧ OwnOk Λ L a ∧ Sat Γ h a ∧ a.defers = [] ∧ St B h (Sum.elim (fun _ : Unit => some x) F) w ∧ q v x := by
  obtain ⟨h, L, hl, hst, hOw, hsat, _, hdf⟩ := hAt
  obtain ⟨e, hL, hq⟩ := hOw i q hs
  have := hsat i
  rw [hi] at this
  have hv : a.gt i = v := this
  rw [hv] at hq
  exact ⟨h, L, e, hl, hst, hOw, hsat, hdf, hst.one i hL, hq⟩
theorem retM0 {fn : Func} (hr : fn.results = #[]) (hi : Γ i = fIs v) (hs : Λ i = some q) (hAt : At B h0 Γ Λ F n a w) : RetPostM P fn B h0 F v q fT0 .ret a w := by
  obtain ⟨h, L, x, hl, hst, hOw, hsat, hdf, hst', hq⟩ := hAt.own1 hi hs
  exact ⟨hdf, .tuple #[], by simp [results, hr], _, h, x, rfl, hl, hst', rfl, hq⟩
theorem retM1 {fn : Func} {rv : ResultVar} {g : Fact} (hr : fn.results = #[rv]) (hi : Γ i = fIs v) (hs : Λ i = some q) (h1 : RvOk P Γ Λ rv g) (hAt : At B h0 Γ Λ F n a w) : RetPostM P fn B h0 F v q g .ret a w := by
  obtain ⟨h, L, x, hl, hst, hOw, hsat, hdf, hst', hq⟩ := hAt.own1 hi hs
  obtain ⟨u, hu, hp⟩ := h1 _ B F h a w L hst hOw hsat
  refine ⟨hdf, u, ?_, u, h, x, rfl, hl, hst', hp, hq⟩
  rw [results_eq]; simp [hr, hu]
theorem retM2 {fn : Func} {rv rv' : ResultVar} {g g' : Fact} (hr : fn.results = #[rv, rv']) (hi : Γ i = fIs v) (hs : Λ i = some q) (h1 : RvOk P Γ Λ rv g) (h2 : RvOk P Γ Λ rv' g') (hAt : At B h0 Γ Λ F n a w) : RetPostM P fn B h0 F v q (fT2 g g') .ret a w := by
  obtain ⟨h, L, x, hl, hst, hOw, hsat, hdf, hst', hq⟩ := hAt.own1 hi hs
  obtain ⟨u, hu, hp⟩ := h1 _ B F h a w L hst hOw hsat
  obtain ⟨u', hu', hp'⟩ := h2 _ B F h a w L hst hOw hsat
  refine ⟨hdf, .tuple #[u, u'], ?_, _, h, x, rfl, hl, hst', ⟨u, u', rfl, hp, hp'⟩, hq⟩
  rw [results_eq]; simp [hr, hu, hu']
theorem retM3 {fn : Func} {rv rv' rv'' : ResultVar} {g g' g'' : Fact} (hr : fn.results = #[rv, rv', rv'']) (hi : Γ i = fIs v) (hs : Λ i = some q) (h1 : RvOk P Γ Λ rv g) (h2 : RvOk P Γ Λ rv' g') (h3 : RvOk P Γ Λ rv'' g'') (hAt : At B h0 Γ Λ F n a w) : RetPostM P fn B h0 F v q (fT3 g g' g'') .ret a w := by
  obtain ⟨h, L, x, hl, hst, hOw, hsat, hdf, hst', hq⟩ := hAt.own1 hi hs
  obtain ⟨u, hu, hp⟩ := h1 _ B F h a w L hst hOw hsat
  obtain ⟨u', hu', hp'⟩ := h2 _ B F h a w L hst hOw hsat
  obtain ⟨u'', hu'', hp''⟩ := h3 _ B F h a w L hst hOw hsat
  refine ⟨hdf, .tuple #[u, u', u''], ?_, _, h, x, rfl, hl, hst', ⟨u, u', u'', rfl, hp, hp', hp''⟩, hq⟩
  rw [results_eq]; simp [hr, hu, hu', hu'']
end
theorem St.out {κ : Type} {B : Base} {h : H} {L : Nat → Option Ent} {F : κ → Option Ent} {w : World} {x : Ent} {s : Nat} (hst : St B h (Sum.elim (set1 L s x) F) w) :
    St B h (Sum.elim (fun _ : Unit => some x) (Sum.elim (fun k => if k = s then none else L k) F)) w := by
  refine hst.reind (fun k => match k with | .inl _ => .inl s | .inr (.inl k) => .inl k | .inr (.inr k) => .inr k) ?_ ?_
  · intro k e hk
    cases k with
    | inl k => simpa [set1] using hk
    | inr k => cases k with
      | inl k =>
        simp only [Sum.elim_inr, Sum.elim_inl] at hk
        split at hk
        · cases hk
        · rename_i hne; simpa [set1, hne] using hk
      | inr k => exact hk
  · intro k k' e e' hk hk' hne
    have key : ∀ (j : Nat) (e : Ent), (if j = s then none else L j) = some e → j ≠ s := fun j e hj hjs => by rw [if_pos hjs] at hj; cases hj
    cases k with
    | inl k => cases k' with
      | inl k' => exact absurd rfl hne
      | inr k' => cases k' with
        | inl k' => intro he; exact key _ _ hk' (Sum.inl.inj he).symm
        | inr k' => intro he; cases he
    | inr k => cases k with
      | inl k => cases k' with
        | inl k' => intro he; exact key _ _ hk (Sum.inl.inj he)
        | inr k' => cases k' with
          | inl k' => intro he; exact hne (by rw [Sum.inl.inj he])
          | inr k' => intro he; cases he
      | inr k => cases k' with
        | inl k' => intro he; cases he
        | inr k' => cases k' with
          | inl k' => intro he; cases he
          | inr k' => intro he; exact hne (by rw [Sum.inr.inj he])
theorem St.into {κ : Type} {B : Base} {h : H} {L : Nat → Option Ent} {F : κ → Option Ent} {w : World} {x : Ent} {s : Nat} (hst : St B h (Sum.elim (fun _ : Unit => some x) (Sum.elim (fun k => if k = s then none else L k) F)) w) :
    St B h (Sum.elim (set1 L s x) F) w := by
  refine hst.reind (fun k => match k with | .inl k => if k = s then .inl () else .inr (.inl k) | .inr k => .inr (.inr k)) ?_ ?_
  · intro k e hk
    cases k with
    | inr k => exact hk
    | inl k =>
      by_cases hks : k = s
      · subst hks; simp [set1] at hk; simp [hk]
      · simp [set1, hks] at hk; simp [hks, hk]
  · intro k k' e1 e2 h1 h2 hne
    cases k with
    | inr k => cases k' with
      | inr k' => intro he; exact hne (by rw [Sum.inr.inj (Sum.inr.inj he)])
      | inl k' => intro he; simp only [] at he; split at he <;> cases he
    | inl k => cases k' with
      | inr k' => intro he; simp only [] at he; split at he <;> cases he
      | inl k' =>
        have hne' : k ≠ k' := fun x => hne (by rw [x])
        simp only []
        intro he
        split at he <;> split at he
        · rename_i h3 h4; exact hne' (h3.trans h4.symm)
        · cases he
        · cases he
        · exact hne' (Sum.inl.inj (Sum.inr.inj he))
theorem ok_fieldOwnCp {T T' : TypeId} {r : Rep α} {y : α} {s i off : Nat} {x : Operand} (hf : FieldOk P T i off) (ho : o.op = .fieldAddr T x i) (hx : OpdOk N x (fCp s)) : OpOk P o N [(s, boxE T' r y)] (fOff s off) [] := by
  intro κ B F L h a w hst hn hk _ next Q hnext
  obtain ⟨e, _, b, hv, _⟩ := hk.1
  have hx' : a.eval x = a.gt s := hx h a hn
  have hv' : a.gt s = .pointer (some ⟨b, 0, none⟩) := hv
  unfold Oper.wp
  have : (execOp a.eval o).run P w = .ok (.value (.pointer (some ⟨b, off, none⟩))) w := by simp [execOp, ho, hx', hv', hf b 0 w]
  rw [this]
  exact hnext _ h w L (Hle.refl h) ⟨b, hv', rfl⟩ hst upd_nil
theorem ok_loadBoxCp {T T' : TypeId} {r : Rep α} {s : Nat} {y : α} {x : Operand} (t : TyOk P T r) (ho : o.op = .load T x) (hx : OpdOk N x (fCp s)) :
    OpOk P o N [(s, boxE T' r y)] (fV r y) [] := by
  intro κ B F L h a w hst hn hk _ next Q hnext
  obtain ⟨e, hL, b, hv, rfl⟩ := hk.1
  have hx' : a.eval x = a.gt s := hx h a hn
  have hv' : a.gt s = .pointer (some ⟨b, 0, none⟩) := hv
  obtain ⟨cs, hb, hr⟩ := own_at hst hL
  obtain ⟨c, hc, hrun⟩ := run_load_own t (Lens.refl r) hb hr
  unfold Oper.wp
  have : (execOp a.eval o).run P w = .ok (.value (pack r.agg c)) w := by simp [execOp, ho, hx', hv', hrun]
  rw [this]
  exact hnext _ h w L (Hle.refl h) ⟨c, hc, rfl⟩ hst upd_nil
theorem ok_storeBoxCp {T : TypeId} {r : Rep α} {s : Nat} {x v : Operand} {y z : α} (t : TyOk P T r) (hd : o.dst = none)
    (ho : o.op = .store T x v) (hx : OpdOk N x (fCp s)) (hv : OpdOk N v (fV r z)) : OpOk P o N [(s, boxE T r y)] Fact.triv [(s, some (boxE T r z))] := by
  intro κ B F L h a w hst hn hk _ next Q hnext
  obtain ⟨e, hL, b, hxv, rfl⟩ := hk.1
  have hx' : a.eval x = a.gt s := hx h a hn
  have hxv' : a.gt s = .pointer (some ⟨b, 0, none⟩) := hxv
  obtain ⟨cs, hb, hr⟩ := own_at hst hL
  obtain ⟨c', hc', hvv⟩ := hv h a hn
  have hrun := run_store_cells (p := []) (c := cs) (q := []) t hc' (by simpa using hb) (r.len hr)
  unfold Oper.wp
  have : (execOp a.eval o).run P w = .ok .skip (w.setRow b c'.toArray) := by
    simp only [List.length_nil, List.nil_append, List.append_nil] at hrun
    simp only [execOp, ho, hx', hxv', hvv, Sem.run_bind, hrun, Result.andThen_ok, Sem.run_pure]
  rw [this]
  refine hnext undef h _ _ (Hle.refl h) trivial (hst.put hL hb hc') ?_
  rw [hd]
  exact upd_set1 ⟨b, hxv, rfl⟩
theorem opdT {x : Operand} : OpdOk N x Fact.triv := fun _ _ _ => trivial
theorem opdSelf {s : Nat} : OpdOk N (.tmp s) (fCp s) := fun _ _ _ => rfl
def dstNe (d : Option Nat) (s : Nat) : Bool := match d with | some d => !(Nat.beq d s) | none => true
theorem ok_callM {s i : Nat} {ι : Type} {q0 q0' : OwnP} {q q' : ι → OwnP} {fx : Fact} {f : FuncId} {fn : Func} {args : List Fact} {post : Fact} {xs : Array Operand} {ts : Array TypeId} {y : Operand}
    (hc : ∀ k, FnOkM P f args i (q k) (q' k) post) (hb : Borrow s fx q0 q0' q q') (hfx : fx.dep = some s) (hf : P.funcs[f]? = some fn) (hbd : isBody fn = true) (hd : depNone (post :: args) = true) (hds : dstNe o.dst s = true)
    (ho : o.op = .call { callee := .value (.func f), args := xs, argTypes := ts }) (hy : xs.toList[i]? = some y) (hyx : OpdOk N y fx) (hargs : ArgsOk N args xs.toList) : OpOk P o N [(s, q0)] post [(s, some q0')] := by
  intro κ B F L h a w hst hn hk hdn next Q hnext
  obtain ⟨e, hL, hq⟩ := hk.1
  have hL : L s = some e := hL
  have hvx := hyx h a hn
  unfold Fact.dv at hvx
  rw [hfx] at hvx
  obtain ⟨k, x, hqx, hst1, hback⟩ := hb κ B F L h w (a.gt s) (a.eval y) e hst hL hq hvx
  simp only [isBody, Bool.and_eq_true, Bool.not_eq_true'] at hbd
  have hbody : fn.body ≠ none := by
    intro hx; rw [hx] at hbd; cases hbd.1
  have hname : fn.name ≠ "runtime.NumGoroutine" := by simpa using hbd.2
  have hdp := depNone_spec hd
  obtain ⟨hlen, hall⟩ := hargs.spec
  unfold Oper.wp
  have : (execOp a.eval o).run P w = .ok (.enter f (xs.toList.map a.eval).toArray) w := by
    have e : (xs.toList.map a.eval).toArray = xs.map a.eval := by apply Array.ext'; simp
    rw [e]
    simp [execOp, ho, resolve, Act.eval, Deferred.ofValue, invoke, callFunc, hf, hname, hbody]
  rw [this, Oper.upon_enter]
  refine (hc k _ B _ h w (xs.toList.map a.eval) x (a.eval y) hst1.out (by rw [List.length_map]; exact hlen) (by rw [List.getElem?_map, hy]; rfl) hqx ?_).mono ?_
  · intro j g v hg hv
    rw [List.getElem?_map] at hv
    cases hx : xs.toList[j]? with
    | none => rw [hx] at hv; cases hv
    | some x =>
      rw [hx] at hv; cases hv
      have := hall j g x hg hx h a hn
      unfold Fact.dv at this
      rw [hdp g (List.mem_cons_of_mem _ (List.mem_of_getElem? hg))] at this
      exact this
  · rintro e w' ⟨v, h', x', rfl, hl, hst', hp, hq'⟩
    obtain ⟨e', hq0', hst4⟩ := hback h' w' x' hl hq' hst'.into
    refine hnext v h' w' _ hl ?_ hst4 ?_
    · unfold Fact.dv
      rw [hdp post List.mem_cons_self]
      exact hp
    · refine upd_set1 ?_
      rw [gt_put_dst (by
        intro hd; unfold dstNe at hds; rw [hd] at hds
        simp [Nat.beq_refl] at hds)]
      exact hq0'
end Go.KB
