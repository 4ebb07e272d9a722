/- Variables with a field that is a row of one's own. Equality of structs; cuts with a capacity; deletion from a row. No condition. -/
import Derived.Test.YtbedbjphickpaaaKZc
namespace Go.KB
variable {P : Program} {o : Oper} {N : List (Nat × Fact)} {α β γ : Type}
def Rep.raw : Rep Value where
 sz := 1
 agg := false
 rel := fun _ cs v => cs = [v] ∧ v.oneCell' = true
 zero := nilV
 zc := [nilV]
 one := fun _ => rfl
 len := fun e => by rw [e.1]; rfl
 flat := fun e c hc => by rw [e.1] at hc; simp at hc; rw [hc]; exact e.2
 mono := fun _ e => e
 zrel := fun _ => ⟨rfl, rfl⟩
theorem TyOk.raw {T : TypeId} {q : Rep β} (t : TyOk P T (Rep.slice q)) : TyOk P T Rep.raw := ⟨t.size, t.agg, t.zero⟩
theorem val_raw {h : H} {v x : Value} : Rep.raw.val h v x → v = x := fun ⟨_, e, e'⟩ => by rw [e', e.1]; rfl
section
variable {r : Rep α} {q : Rep β} {off : Nat} {get : α → List β} {set : α → List β → α}
def Rep.hole (l : Lens r (Rep.slice q) off get set) (hz : r.zc[off]? = some nilV) : Rep (α × Value) where
 sz := r.sz
 agg := r.agg
 rel := fun h cs x => ∃ p s, cs = p ++ [x.2] ++ s ∧ p.length = off ∧ x.2.oneCell' = true ∧ r.rel h (p ++ [nilV] ++ s) (set x.1 [])
 zero := (r.zero, nilV)
 zc := r.zc
 one := r.one
 len := by rintro h cs x ⟨p, s, rfl, hp, _, k⟩; have := r.len k; simpa using this
 flat := by
  rintro h cs x ⟨p, s, rfl, hp, hv, k⟩ c hc
  have := r.flat k c
  simp only [List.mem_append, List.mem_singleton] at hc this
  rcases hc with (hc | hc) | hc
  ·exact this (.inl (.inl hc))
  ·rw [hc]; exact hv
  ·exact this (.inr hc)
 mono := by rintro h h' cs x hl ⟨p, s, e, hp, hv, k⟩; exact ⟨p, s, e, hp, hv, r.mono hl k⟩
 zrel := fun h => by
  obtain ⟨p, c, s, e, hp, ⟨v, rfl, _⟩, k⟩ := l h _ _ (r.zrel h)
  have hv : v = nilV := by
   rw [e, List.append_assoc, List.getElem?_append_right (by omega), hp] at hz
   simpa using hz
  subst hv
  exact ⟨p, s, e, hp, rfl, k h [nilV] [] (Hle.refl h) ⟨_, rfl, .inl ⟨⟨none, rfl⟩, rfl⟩⟩⟩
variable {l : Lens r (Rep.slice q) off get set} {hz : r.zc[off]? = some nilV}
theorem TyOk.hole {T : TypeId} (t : TyOk P T r) : TyOk P T (Rep.hole l hz) := ⟨t.size, t.agg, t.zero⟩
theorem Lens.holeR : Lens (Rep.hole l hz) Rep.raw off (fun x => x.2) (fun x v => (x.1, v)) := by
 rintro h cs x ⟨p, s, rfl, hp, hv, k⟩
 refine ⟨p, [x.2], s, rfl, hp, ⟨rfl, hv⟩, ?_⟩
 rintro h' c' y hl ⟨rfl, hy⟩
 exact ⟨p, s, rfl, hp, hy, r.mono hl k⟩
def rowG (sv : Value) (E : TypeId) (r : Rep α) (xs : List α) : OwnP := fun _ e => arrE E r xs sv e
def fElV (sv : Value) (off : Nat) : Fact := ⟨none, fun _ _ v => ∃ b len cap, sv = .slice (some ⟨b, 0, none⟩) len cap ∧ v = .pointer (some ⟨b, off, none⟩), fun _ x => x⟩
theorem RowAt.raw {x : Operand} {g : Nat} {sv : Value} {E : TypeId} {r : Rep α} {xs : List α} (hx : OpdOk N x (fV Rep.raw sv)) : RowAt N x g (rowG sv E r xs) E r xs := fun h a _ n k => by rw [val_raw (hx h a n)]; exact k
theorem ok_elG {T E : TypeId} {r : Rep α} {g : Nat} {sv : Value} {k : IntKind} {x i : Operand} {xs : List α} {n : Int} {y : α} (hq : idx xs n = some y) (t : TyOk P E r) (hT : P.underlying T = some (.slice E)) (ho : o.op = .indexAddr T x i) (hx : OpdOk N x (fV Rep.raw sv)) (hi : OpdOk N i (fV (Rep.int k) n)) :
  OpOk P o N [(g, rowG sv E r xs)] (fElV sv (n.toNat * r.sz)) [] := by
 obtain ⟨h0, h1, _⟩ := idx_spec hq
 intro κ B F L h a w hst hn hk _ next Q hnext
 obtain ⟨e, _, ⟨_, rfl, _⟩ | ⟨b, cap, hv, _, _⟩⟩ := hk.1
 ·exact absurd h1 (Nat.not_lt_zero _)
 have hx' : a.eval x = sv := val_raw (hx h a hn)
 unfold Oper.wp
 have hb : 0 ≤ n ∧ n < xs.length := by omega
 have : (execOp a.eval o).run P w = .ok (.value (.pointer (some ⟨b, n.toNat * r.sz, none⟩))) w := by
  simp [execOp, ho, hx', hv, val_int.1 (hi h a hn), Instr.indexAt, asIntOf, run_underlying hT, hb, t.size, Addr.add_mid]
 rw [this]
 exact hnext _ h w L (Hle.refl h) ⟨b, _, cap, hv, rfl⟩ hst upd_nil
theorem ok_fieldElG {T : TypeId} {i off off' : Nat} {sv : Value} {x : Operand} (hf : FieldOk P T i off) (ho : o.op = .fieldAddr T x i) (hx : OpdOk N x (fElV sv off')) : OpOk P o N [] (fElV sv (off' + off)) [] :=
 OpOk.ofRun fun h a w _ q => by
  obtain ⟨b, len, cap, hd, hv⟩ := hx h a q
  exact ⟨.pointer (some ⟨b, off' + off, none⟩), by simp [execOp, ho, hv, hf b off' w], b, len, cap, hd, rfl⟩
theorem ok_loadG {T E : TypeId} {r : Rep α} {q : Rep β} {g off m : Nat} {sv : Value} {x : Operand} {xs : List α} {y : α} {get : α → β} {set : α → β → α} (hy : xs[m]? = some y) (l : Lens r q off get set) (t : TyOk P T q) (ho : o.op = .load T x) (hx : OpdOk N x (fElV sv (m * r.sz + off))) :
  OpOk P o N [(g, rowG sv E r xs)] (fV q (get y)) [] := by
 intro κ B F L h a w hst hn hk _ next Q hnext
 obtain ⟨b, len, cap, hd, hv⟩ := hx h a hn
 obtain ⟨e, hL, ⟨_, rfl, _⟩ | ⟨b', cap', hv', hc, rfl⟩⟩ := hk.1
 ·simp at hy
 rw [hd] at hv'; cases hv'
 obtain ⟨cs, rest, hb, hr, _⟩ := arr_at hst hL
 obtain ⟨p, c, q', rfl, hp, hcr, _⟩ := hr.get hy
 obtain ⟨p2, c2, q2, rfl, hp2, hc2, _⟩ := l h c y hcr
 unfold Oper.wp
 have hrun := run_load_cells (b := b) (off := m * r.sz + off) (w := w) t (q.len hc2) (fun j v hj => by
  rw [cell?_eq _ _ _ _ _ _ hb]
  have hjl := (List.getElem?_eq_some_iff.1 hj).1
  simp only [List.getElem?_toArray]
  rw [show p ++ (p2 ++ c2 ++ q2) ++ q' ++ rest = (p ++ p2) ++ (c2 ++ (q2 ++ q' ++ rest)) by simp, List.getElem?_append_right (by simp; omega)]
  rw [show m * r.sz + off + j - (p ++ p2).length = j by simp; omega, List.getElem?_append_left hjl]; exact hj)
 have : (execOp a.eval o).run P w = .ok (.value (pack q.agg c2)) w := by simp [execOp, ho, hv, hrun]
 rw [this]
 exact hnext _ h w L (Hle.refl h) ⟨c2, hc2, rfl⟩ hst upd_nil
theorem ok_storeG {T E : TypeId} {r : Rep α} {q : Rep β} {g off m : Nat} {sv : Value} {x v : Operand} {xs : List α} {y : α} {z : β} {get : α → β} {set : α → β → α} {xs' : List α} (hy : xs[m]? = some y) (l : Lens r q off get set) (t : TyOk P T q) (hd : o.dst = none) (ho : o.op = .store T x v)
    (hx : OpdOk N x (fElV sv (m * r.sz + off))) (hv : OpdOk N v (fV q z)) (hs' : xs' = xs.set m (set y z)) : OpOk P o N [(g, rowG sv E r xs)] Fact.triv [(g, some (rowG sv E r xs'))] := by
  subst hs'
  intro κ B F L h a w hst hn hk _ next Q hnext
  obtain ⟨b, len, cap, hdv, hxv⟩ := hx h a hn
  obtain ⟨e, hL, ⟨_, rfl, _⟩ | ⟨b', cap', hv', hc, rfl⟩⟩ := hk.1
  · simp at hy
  have hv0 := hv'
  rw [hdv] at hv'; cases hv'
  obtain ⟨cs, rest, hb, hr, hlen⟩ := arr_at hst hL
  obtain ⟨c', hc', hvv⟩ := hv h a hn
  obtain ⟨p, c, q', rfl, hp, hcr, hset⟩ := hr.get hy
  obtain ⟨p2, c2, q2, rfl, hp2, hc2, hset2⟩ := l h c y hcr
  have hsh : p ++ (p2 ++ c2 ++ q2) ++ q' ++ rest = (p ++ p2) ++ c2 ++ (q2 ++ q' ++ rest) := by simp
  have hsh' : (p ++ p2) ++ c' ++ (q2 ++ q' ++ rest) = (p ++ (p2 ++ c' ++ q2) ++ q') ++ rest := by simp
  have hb0 := hb
  rw [hsh] at hb
  have hrun := run_store_cells t hc' hb (q.len hc2)
  unfold Oper.wp
  have hpl : (p ++ p2).length = m * r.sz + off := by simp; omega
  have : (execOp a.eval o).run P w = .ok .skip (w.setRow b ((p ++ p2) ++ c' ++ (q2 ++ q' ++ rest)).toArray) := by
    simp only [execOp, ho, hxv, hvv, ← hpl, Sem.run_bind, hrun, Result.andThen_ok, Sem.run_pure]
  rw [this, hsh']
  obtain ⟨hcl, _⟩ := hst.own (k := Sum.inl g) hL
  have hno := (hcl (b, 0) (by simp [arrEnt])).2.2
  have hrel := hset h _ _ (Hle.refl h) (hset2 h c' z (Hle.refl h) hc')
  have hmem := setRow_mem w b (p ++ (p2 ++ c2 ++ q2) ++ q' ++ rest).toArray ((p ++ (p2 ++ c' ++ q2) ++ q') ++ rest).toArray E hb0
  refine hnext undef h _ (set1 L g (arrEnt b E r (xs.set m (set y z)) cap)) (Hle.refl h) trivial ?_ ?_
  · refine hst.write (Sum.inl g) (e := arrEnt b E r xs cap) hL (b := b) (lo := 0) (by simp [arrEnt]) hmem (fun i hi => setRow_other w b i _ hi) (by simp [World.setRow]) rfl rfl rfl ?_ set1_ne ?_
    · intro o' u hh; rw [hno o' (Nat.zero_le _)] at hh; cases hh
    · intro e' he
      rw [set1_eq he]
      refine ⟨fun c hc => hc, _, rest, hmem, hrel, ?_⟩
      rw [← hlen]
      have := q.len hc'; have := q.len hc2
      simp; omega
  · rw [hd]
    exact upd_set1 (.inr ⟨b, cap, by rw [List.length_set]; exact hv0, by rw [List.length_set]; exact hc, rfl⟩)
theorem ok_buildArr0 {T E : TypeId} {r : Rep α} {d : Nat} {n : Nat} {parts : Array (Nat × Operand)} (hn0 : n = 0) (hp : parts = #[]) (t : TyOk P E r) (hT : P.underlying T = some (.slice E)) (hd : o.dst = some d) (ho : o.op = .buildSlice T n parts) : OpOk P o N [] Fact.triv [(d, some (arrE E r []))] := by
 subst hn0; subst hp
 intro κ B F L h a w hst hn _ hdn next Q hnext
 obtain ⟨cs, hr, hl, hrun⟩ := run_buildSlice (N := N) (n := 0) (parts := #[]) (ys := ([] : List α)) w t hT (by simp) (fillN (place := fun i => some (i * r.sz, r.sz)) (r := r.arr 0)) hn
 unfold Oper.wp
 have : (execOp a.eval o).run P w = .ok (.value (.slice (some ⟨w.heap.size, 0, none⟩) 0 0)) (w.alloc (.cells cs.toArray E)) := by
  simp only [execOp, ho, Sem.run_bind, hrun, Result.andThen_ok, Sem.run_pure]
 rw [this]
 refine hnext _ h _ (set1 L d (arrEnt w.heap.size E r ([] : List α) 0)) (Hle.refl h) trivial (hst.own_new _ d _ (by intro c hc; simp [arrEnt] at hc; rw [hc]) ⟨cs, [], by rw [List.append_nil]; exact mem_new _ _, hr, by rw [List.append_nil, hr.len, hl]⟩) ?_
 rw [hd]
 exact upd_set1 (.inr ⟨_, 0, gt_put_same (hdn d hd), Nat.le_refl _, rfl⟩)
end
def JEnt (e1 e2 : Ent) : Ent where
 claims := e1.claims ++ e2.claims
 ok := fun h m => e1.ok h m ∧ e2.ok h m
 mono := fun hl x => ⟨e1.mono hl x.1, e2.mono hl x.2⟩
 frame := fun hm x => ⟨e1.frame (fun c hc => hm c (List.mem_append_left _ hc)) x.1, e2.frame (fun c hc => hm c (List.mem_append_right _ hc)) x.2⟩
section
variable {r : Rep α} {q : Rep β} {off : Nat} {get : α → List β} {set : α → List β → α} {l : Lens r (Rep.slice q) off get set} {hz : r.zc[off]? = some nilV}
def jE (T : TypeId) (R : Rep (α × Value)) (x : α) (ts : List TipS) (E : TypeId) (q : Rep β) (ys : List β) : OwnP := fun v e => ∃ sv e1 e2, boxT T R (x, sv) ts v e1 ∧ arrE E q ys sv e2 ∧ Disj e1.claims e2.claims ∧ e = JEnt e1 e2
def fVR (R : Rep (α × Value)) (x : α) : Fact := ⟨none, fun h _ v => ∃ sv, R.val h v (x, sv), fun hl ⟨sv, k⟩ => ⟨sv, R.val_mono hl k⟩⟩
def rowIn (off : Nat) (E : TypeId) (q : Rep β) (ys : List β) : OwnP := fun v e => ∃ cs sv, v = .agg cs ∧ cs[off]? = some sv ∧ arrE E q ys sv e
def tupE3 (q : OwnP) : OwnP := fun v e => ∃ x y z, v = .tuple #[x, y, z] ∧ q x e
theorem hole_full {h : H} {cs : List Value} {x : α} {sv : Value} (k : (Rep.hole l hz).rel h cs (x, sv)) (hv : (Rep.slice q).rel h [sv] (get x)) (hs : set (set x []) (get x) = x) : r.rel h cs x := by
 obtain ⟨p, s, rfl, hp, _, k⟩ := k
 obtain ⟨p2, c2, s2, e, hp2, hc2, k2⟩ := l h _ _ k
 have hl2 := (Rep.slice q).len hc2
 obtain ⟨e1, e2⟩ := List.append_inj (show p ++ ([nilV] ++ s) = p2 ++ (c2 ++ s2) by rw [← List.append_assoc, e]; simp) (by omega)
 obtain ⟨_, e4⟩ := List.append_inj e2 (by rw [hl2]; rfl)
 subst e1; subst e4
 have := k2 h [sv] (get x) (Hle.refl h) hv
 rwa [hs] at this
theorem hole_of {h : H} {cs : List Value} {x : α} (k : r.rel h cs x) : ∃ sv, (Rep.hole l hz).rel h cs (x, sv) := by
 obtain ⟨p, c, s, rfl, hp, hc, k2⟩ := l h _ _ k
 have hf := (Rep.slice q).flat hc
 obtain ⟨v, rfl, _⟩ := hc
 exact ⟨v, p, s, rfl, hp, hf v (by simp), k2 h [nilV] [] (Hle.refl h) ⟨_, rfl, .inl ⟨⟨none, rfl⟩, rfl⟩⟩⟩
theorem St.freezeK {κ : Type} {B : Base} {h : H} {L L' : κ → Option Ent} {w : World} (hst : St B h L w) (k : κ) {e : Ent} {E : TypeId} {ys : List β} {sv : Value} (hk : L k = some e) (hq : arrE E q ys sv e) (hL : ∀ k' e, k' ≠ k → L' k' = some e → L k' = some e) (hn : L' k = none) :
    ∃ h', Hle h h' ∧ St B h' L' w ∧ (Rep.slice q).rel h' [sv] ys := by
  rcases hq with ⟨⟨base, rfl⟩, rfl, rfl⟩ | ⟨b, cap, rfl, hc, rfl⟩
  · refine ⟨h, Hle.refl h, hst.less (fun k' e' he => hL k' e' (fun x => ?_) he), _, rfl, .inl ⟨⟨base, rfl⟩, rfl⟩⟩
    rw [x, hn] at he; cases he
  · obtain ⟨_, cs, rest, hb, hr, hlen⟩ := hst.own hk
    have hb' : w.heap[b]? = some (.cells (cs ++ rest).toArray E (0, 0)) := hb
    obtain ⟨hl2, hst2⟩ := hst.freeze k (e := arrEnt b E q ys cap) hk (b := b) (lo := 0) (by simp [arrEnt]) hb' cs.length (by simp) (L' := L') hL (fun e' he => by rw [hn] at he; cases he)
    have htk : (cs ++ rest).toArray.toList.take cs.length = cs := by simp
    rw [htk] at hl2 hst2
    refine ⟨_, hl2, hst2, _, rfl, .inr ⟨b, 0, cap, rfl, hc, (hr.mono hl2).refs fun j v hj => ?_⟩⟩
    have hjl := (List.getElem?_eq_some_iff.1 hj).1
    rw [Nat.zero_add, hadd_new hjl, ← hj, List.getElem?_eq_getElem hjl]

section
variable {κ : Type} {B : Base} {h0 : H} {Γ : Ctx} {Λ : Own} {F : κ → Option Ent} {n : Nat} {a : Act} {w : World} {T E : TypeId} {x : α} {ts : List TipS} {sv : Value} {ys : List β}
theorem At.toRaw (l : Lens r (Rep.slice q) off get set) (hz : r.zc[off]? = some nilV) (s : Nat) (hAt : At B h0 Γ Λ F n a w) (hs : Λ s = some (boxT T r x ts)) : ∃ sv, At B h0 Γ (fun k => bif Nat.beq s k then some (boxT T (Rep.hole l hz) (x, sv) ts) else Λ k) F n a w := by
 obtain ⟨h, L, hle, hst, hOw, hsat, hsz, hdf⟩ := hAt
 obtain ⟨e, hL, b, us, hv, hta, hbo, rfl⟩ := hOw s _ hs
 obtain ⟨⟨cs, hb, hr, hu1⟩, hu2⟩ := boxT_at hst hL
 obtain ⟨sv, hr'⟩ := hole_of (l := l) (hz := hz) hr
 have hst' := hst.swap (e' := boxTEnt b T (Rep.hole l hz) (x, sv) us) hL (fun c hc => ⟨c, hc, rfl, Nat.le_refl _⟩) ⟨⟨cs, hb, hr', hu1⟩, hu2⟩
 refine ⟨sv, h, _, hle, hst', ?_, hsat, hsz, hdf⟩
 intro k q hq
 cases hk : Nat.beq s k with
 | true =>
  simp only [hk, cond_true] at hq
  cases hq
  rw [nbeq] at hk; subst hk
  exact ⟨_, set1_at, b, _, hv, hta, hbo, rfl⟩
 | false =>
  simp only [hk, cond_false] at hq
  obtain ⟨e, he, hqe⟩ := hOw k q hq
  have : k ≠ s := fun x => by rw [nbeq.2 x.symm] at hk; cases hk
  exact ⟨e, by simp [set1, this, he], hqe⟩
theorem At.reterm {x' : α} (s : Nat) (hAt : At B h0 Γ Λ F n a w) (hs : Λ s = some (boxT T (Rep.hole l hz) (x, sv) ts)) (he : set x [] = set x' []) : At B h0 Γ (fun k => bif Nat.beq s k then some (boxT T (Rep.hole l hz) (x', sv) ts) else Λ k) F n a w := by
 obtain ⟨h, L, hle, hst, hOw, hsat, hsz, hdf⟩ := hAt
 obtain ⟨e, hL, b, us, hv, hta, hbo, rfl⟩ := hOw s _ hs
 obtain ⟨⟨cs, hb, ⟨p, t, h1, h2, h3, h4⟩, hu1⟩, hu2⟩ := boxT_at hst hL
 have hst' := hst.swap (e' := boxTEnt b T (Rep.hole l hz) (x', sv) us) hL (fun c hc => ⟨c, hc, rfl, Nat.le_refl _⟩) ⟨⟨cs, hb, ⟨p, t, h1, h2, h3, by simp only [] at h4 ⊢; rw [← he]; exact h4⟩, hu1⟩, hu2⟩
 refine ⟨h, _, hle, hst', ?_, hsat, hsz, hdf⟩
 intro k q hq
 cases hk : Nat.beq s k with
 | true =>
  simp only [hk, cond_true] at hq
  cases hq
  rw [nbeq] at hk; subst hk
  exact ⟨_, set1_at, b, _, hv, hta, hbo, rfl⟩
 | false =>
  simp only [hk, cond_false] at hq
  obtain ⟨e, he, hqe⟩ := hOw k q hq
  have : k ≠ s := fun x => by rw [nbeq.2 x.symm] at hk; cases hk
  exact ⟨e, by simp [set1, this, he], hqe⟩
theorem At.splitJ {R : Rep (α × Value)} (s g : Nat) (hsg : Nat.beq s g = false) (hAt : At B h0 Γ Λ F n a w) (hs : Λ s = some (jE T R x ts E q ys)) :
  ∃ sv, At B h0 Γ (fun k => bif Nat.beq s k then some (boxT T R (x, sv) ts) else bif Nat.beq g k then some (rowG sv E q ys) else Λ k) F n a w := by
 obtain ⟨h, L, hle, hst, hOw, hsat, hsz, hdf⟩ := hAt
 obtain ⟨e, hL, sv, e1, e2, h1, h2, hd, rfl⟩ := hOw s _ hs
 have hne : s ≠ g := fun x => by rw [nbeq.2 x] at hsg; cases hsg
 obtain ⟨_, k1, k2⟩ := hst.own (k := Sum.inl s) hL
 have hst' := hst.split2 (d := g) (e1 := e1) (e2 := e2) hL hne (fun c hc => List.mem_append_left _ hc) (fun c hc => List.mem_append_right _ hc) hd k1 k2
 refine ⟨sv, h, _, hle, hst', ?_, hsat, hsz, hdf⟩
 intro k Q hq
 cases hk : Nat.beq s k with
 | true =>
  simp only [hk, cond_true] at hq
  cases hq
  rw [nbeq] at hk; subst hk
  exact ⟨e1, by simp [set1, hne], h1⟩
 | false =>
  simp only [hk, cond_false] at hq
  cases hk2 : Nat.beq g k with
  | true =>
   simp only [hk2, cond_true] at hq
   cases hq
   rw [nbeq] at hk2; subst hk2
   exact ⟨e2, by simp [set1], h2⟩
  | false =>
   simp only [hk2, cond_false] at hq
   obtain ⟨e, he, hqe⟩ := hOw k Q hq
   have h3 : k ≠ s := fun x => by rw [nbeq.2 x.symm] at hk; cases hk
   have h4 : k ≠ g := fun x => by rw [nbeq.2 x.symm] at hk2; cases hk2
   exact ⟨e, by simp [set1, h3, h4, he], hqe⟩
theorem At.freezeG (s g : Nat) (hsg : Nat.beq s g = false) (hAt : At B h0 Γ Λ F n a w) (hs : Λ s = some (boxT T (Rep.hole l hz) (x, sv) ts)) (hg : Λ g = some (rowG sv E q ys)) (he : ys = get x) (hx : set (set x []) (get x) = x) :
  At B h0 Γ (fun k => bif Nat.beq s k then some (boxT T r x ts) else bif Nat.beq g k then none else Λ k) F n a w := by
 subst he
 obtain ⟨h, L, hle, hst, hOw, hsat, hsz, hdf⟩ := hAt
 obtain ⟨e, hL, b, us, hv, hta, hbo, rfl⟩ := hOw s _ hs
 obtain ⟨eg, hLg, hqg⟩ := hOw g _ hg
 have hne : s ≠ g := fun x => by rw [nbeq.2 x] at hsg; cases hsg
 obtain ⟨h', hl, hst', hsl⟩ := hst.freezeK (Sum.inl g) (L' := Sum.elim (fun k => if k = g then none else L k) F) hLg hqg (by
  intro k' e' hne he
  cases k' with
  | inr k => exact he
  | inl k =>
   have : k ≠ g := fun x => hne (by rw [x])
   simpa [this] using he) (by simp)
 have hLs : (fun k => if k = g then none else L k) s = some (boxTEnt b T (Rep.hole l hz) (x, sv) us) := by simp [hne, hL]
 obtain ⟨⟨cs, hb, hr, hu1⟩, hu2⟩ := boxT_at hst' hLs
 have hst2 := hst'.swap (e' := boxTEnt b T r x us) hLs (fun c hc => ⟨c, hc, rfl, Nat.le_refl _⟩) ⟨⟨cs, hb, hole_full hr hsl hx, hu1⟩, hu2⟩
 refine ⟨h', _, hle.trans hl, hst2, ?_, fun k => (Γ k).mono hl (hsat k), hsz, hdf⟩
 intro k Q hq
 cases hk : Nat.beq s k with
 | true =>
  simp only [hk, cond_true] at hq
  cases hq
  rw [nbeq] at hk; subst hk
  exact ⟨_, set1_at, b, _, hv, hta, hbo, rfl⟩
 | false =>
  simp only [hk, cond_false] at hq
  cases hk2 : Nat.beq g k with
  | true => simp only [hk2, cond_true] at hq; cases hq
  | false =>
   simp only [hk2, cond_false] at hq
   obtain ⟨e, he, hqe⟩ := hOw k Q hq
   have h3 : k ≠ s := fun x => by rw [nbeq.2 x.symm] at hk; cases hk
   have h4 : k ≠ g := fun x => by rw [nbeq.2 x.symm] at hk2; cases hk2
   exact ⟨e, by simp [set1, h3, h4, he], hqe⟩
theorem At.newNil (E : TypeId) (q : Rep β) (g : Nat) (hAt : At B h0 Γ Λ F n a w) : At B h0 Γ (fun k => bif Nat.beq g k then some (rowG nilV E q ([] : List β)) else Λ k) F n a w := by
 obtain ⟨h, L, hle, hst, hOw, hsat, hsz, hdf⟩ := hAt
 have hst' : St B h (Sum.elim (set1 L g nilEnt) F) w := by
  refine hst.step (Sum.inl g) (fun _ => False) (fun b hb => hb.elim) (Nat.le_refl _) rfl rfl rfl (fun _ _ _ => rfl) (Hle.refl h) (fun _ _ _ _ => rfl) ?_ set1_ne ?_
  ·rintro b o' v (hb | hb) hv
   ·exact hb.elim
   ·rw [hst.fresh hb] at hv; cases hv
  ·intro e' he; rw [set1_eq he]; exact ⟨fun c hc => (by cases hc), trivial⟩
 refine ⟨h, _, hle, hst', ?_, hsat, hsz, hdf⟩
 intro k Q hq
 cases hk : Nat.beq g k with
 | true =>
  simp only [hk, cond_true] at hq
  cases hq
  rw [nbeq] at hk; subst hk
  exact ⟨nilEnt, by simp [set1], .inl ⟨⟨none, rfl⟩, rfl, rfl⟩⟩
 | false =>
  simp only [hk, cond_false] at hq
  obtain ⟨e, he, hqe⟩ := hOw k Q hq
  have h3 : k ≠ g := fun x => by rw [nbeq.2 x.symm] at hk; cases hk
  exact ⟨e, by simp [set1, h3, he], hqe⟩
theorem rv_cellR {R : Rep (α × Value)} {s : Nat} (t : TyOk P T R) (hs : Λ s = some (boxT T R (x, sv) ts)) : RvOk P Γ Λ (.cell s T) (fV R (x, sv)) := rv_cellT t hs
theorem rowIn_of {h : H} {v : Value} {e : Ent} (hag : r.agg = true) (k : (Rep.hole l hz).val h v (x, sv)) (hq : arrE E q ys sv e) : rowIn off E q ys v e := by
 obtain ⟨cs, ⟨p, s, rfl, hp, _, _⟩, rfl⟩ := k
 have ha : (Rep.hole l hz).agg = true := hag
 rw [ha]
 exact ⟨_, sv, rfl, by simp [← hp], hq⟩
theorem ret1R {fn : Func} {s g : Nat} (hr : fn.results = #[.cell s T]) (t : TyOk P T (Rep.hole l hz)) (hag : r.agg = true) (hs : Λ s = some (boxT T (Rep.hole l hz) (x, sv) ts)) (hg : Λ g = some (rowG sv E q ys)) (hAt : At B h0 Γ Λ F n a w) :
  RetPostO P fn B h0 F (rowIn off E q ys) (fVR (Rep.hole l hz) x) .ret a w := by
 obtain ⟨h, L, hl, hst, hOw, hsat, _, hdf⟩ := hAt
 obtain ⟨v, hv, hp⟩ := rv_cellR t hs _ B F h a w L hst hOw hsat
 obtain ⟨e, hL, hq⟩ := hOw g _ hg
 refine ⟨hdf, v, ?_, v, h, e, rfl, hl, hst.one g hL, ⟨sv, hp⟩, rowIn_of hag hp hq⟩
 rw [results_eq]; simp [hr, hv]
theorem ret3R {fn : Func} {s g : Nat} {rv rv' : ResultVar} {f f' : Fact} (hr : fn.results = #[.cell s T, rv, rv']) (t : TyOk P T (Rep.hole l hz)) (hag : r.agg = true) (hs : Λ s = some (boxT T (Rep.hole l hz) (x, sv) ts)) (hg : Λ g = some (rowG sv E q ys)) (h1 : RvOk P Γ Λ rv f) (h2 : RvOk P Γ Λ rv' f')
  (hAt : At B h0 Γ Λ F n a w) : RetPostO P fn B h0 F (tupE3 (rowIn off E q ys)) (fT3 (fVR (Rep.hole l hz) x) f f') .ret a w := by
 obtain ⟨h, L, hl, hst, hOw, hsat, _, hdf⟩ := hAt
 obtain ⟨v, hv, hp⟩ := rv_cellR t hs _ B F h a w L hst hOw hsat
 obtain ⟨v1, hv1, hp1⟩ := h1 _ B F h a w L hst hOw hsat
 obtain ⟨v2, hv2, hp2⟩ := h2 _ B F h a w L hst hOw hsat
 obtain ⟨e, hL, hq⟩ := hOw g _ hg
 refine ⟨hdf, .tuple #[v, v1, v2], ?_, _, h, e, rfl, hl, hst.one g hL, ⟨v, v1, v2, rfl, ⟨sv, hp⟩, hp1, hp2⟩, v, v1, v2, rfl, rowIn_of hag hp hq⟩
 rw [results_eq]; simp [hr, hv, hv1, hv2]
end
theorem rowIn_val {h : H} {v : Value} {e : Ent} {x : α} {E : TypeId} {ys : List β} (hag : r.agg = true) (k : (fVR (Rep.hole l hz) x).p h undef v) (hq : rowIn off E q ys v e) : ∃ sv, (Rep.hole l hz).val h v (x, sv) ∧ arrE E q ys sv e := by
 obtain ⟨sv, cs, ⟨p, s, rfl, hp, h3, h4⟩, hv⟩ := k
 obtain ⟨cs', sv', hv', hc, hq⟩ := hq
 have ha : (Rep.hole l hz).agg = true := hag
 rw [ha] at hv
 rw [hv] at hv'
 cases hv'
 have : sv = sv' := by
  simp [← hp] at hc; exact hc
 subst this
 exact ⟨sv, ⟨_, ⟨p, s, rfl, hp, h3, h4⟩, by rw [ha]; exact hv⟩, hq⟩
theorem FnOk.ofR {f : FuncId} {args : List Fact} {x : α} {E : TypeId} {ys : List β} (hc : FnOkO P f args (rowIn off E q ys) (fVR (Rep.hole l hz) x)) (hag : r.agg = true) (he : ys = get x) (hx : set (set x []) (get x) = x) : FnOk P f args (fV r x) := by
 subst he
 intro κ B L h w vs hst hl hargs
 refine (hc κ B L h w vs hst hl hargs).mono ?_
 rintro e w' ⟨v, h', x', rfl, hle, hst', hp, hq⟩
 obtain ⟨sv, ⟨cs, hr, hv⟩, hq⟩ := rowIn_val hag hp hq
 obtain ⟨h2, hl2, hst2, hsl⟩ := hst'.freezeK (Sum.inl ()) (L' := Sum.elim (fun _ : Unit => none) L) rfl hq (by
  intro k' e' hne he
  cases k' with
  | inr k => exact he
  | inl k => exact absurd rfl hne) rfl
 refine ⟨v, h2, rfl, hle.trans hl2, ?_, cs, hole_full ((Rep.hole l hz).mono hl2 hr) hsl hx, hv⟩
 exact hst2.reind Sum.inr (fun _ _ x => x) (fun _ _ _ _ _ _ n e => n (Sum.inr.inj e))
theorem FnOk.ofR3 {f : FuncId} {args : List Fact} {x : α} {E : TypeId} {ys : List β} {f1 f2 : Fact} (hc : FnOkO P f args (tupE3 (rowIn off E q ys)) (fT3 (fVR (Rep.hole l hz) x) f1 f2)) (hag : r.agg = true) (he : ys = get x) (hx : set (set x []) (get x) = x) : FnOk P f args (fT3 (fV r x) f1 f2) := by
 subst he
 intro κ B L h w vs hst hl hargs
 refine (hc κ B L h w vs hst hl hargs).mono ?_
 rintro e w' ⟨v, h', x', rfl, hle, hst', ⟨v0, v1, v2, rfl, hp, hp1, hp2⟩, ⟨u0, u1, u2, hu, hq⟩⟩
 cases hu
 obtain ⟨sv, ⟨cs, hr, hv⟩, hq⟩ := rowIn_val hag hp hq
 obtain ⟨h2, hl2, hst2, hsl⟩ := hst'.freezeK (Sum.inl ()) (L' := Sum.elim (fun _ : Unit => none) L) rfl hq (by
  intro k' e' hne he
  cases k' with
  | inr k => exact he
  | inl k => exact absurd rfl hne) rfl
 refine ⟨_, h2, rfl, hle.trans hl2, ?_, v0, v1, v2, rfl, ⟨cs, hole_full ((Rep.hole l hz).mono hl2 hr) hsl hx, hv⟩, f1.mono hl2 hp1, f2.mono hl2 hp2⟩
 exact hst2.reind Sum.inr (fun _ _ x => x) (fun _ _ _ _ _ _ n e => n (Sum.inr.inj e))
theorem ok_ext30R {q : OwnP} {f g i : Fact} {s d : Nat} (hsd : Nat.beq s d = false) (hf : f.dep = none) (hd : o.dst = some d) (ho : o.op = .extract (.tmp s) 0) (hx : OpdOk N (.tmp s) (fT3 f g i)) : OpOk P o N [(s, tupE3 q)] f [(s, none), (d, some q)] := by
 intro κ B F L h a w hst hn hk hdn next Q hnext
 obtain ⟨e, hL, x, y, z, hv, hq⟩ := hk.1
 have hne : s ≠ d := fun x => by rw [nbeq.2 x] at hsd; cases hsd
 have hv' : a.eval (.tmp s) = .tuple #[x, y, z] := hv
 obtain ⟨u0, u1, u2, hu, hp, _⟩ := hx h a hn
 rw [hv'] at hu; cases hu
 unfold Oper.wp
 have : (execOp a.eval o).run P w = .ok (.value x) w := by simp [execOp, ho, hv', Instr.extract]
 rw [this]
 refine hnext _ h w _ (Hle.refl h) (by unfold Fact.dv; rw [hf]; exact hp) (hst.mv s d) ?_
 rw [hd]
 exact upd_mv hne hL (by rw [gt_put_same (hdn d hd)]; exact hq)
theorem St.putAny {κ : Type} {B : Base} {h : H} {L : Nat → Option Ent} {F : κ → Option Ent} {w : World} {α' β' : Type} (hst : St B h (Sum.elim L F) w) {s b : Nat} {T : TypeId} {r0 : Rep α'} {x0 : α'} {us : List (Nat × Value × Ent)} {cs cs' : List Value} {r1 : Rep β'} {y : β'}
  (hk : L s = some (boxTEnt b T r0 x0 us)) (hb : w.heap[b]? = some (.cells cs.toArray T (0, 0))) (hr : r1.rel h cs' y) :
  World.mem (w.setRow b cs'.toArray) b = some (.cells cs'.toArray T (0, 0)) ∧ St B h (Sum.elim (set1 L s (boxTEnt b T r1 y [])) F) (w.setRow b cs'.toArray) := by
 obtain ⟨hcl, _⟩ := hst.own (k := Sum.inl s) hk
 have hno := (hcl (b, 0) (by simp [boxTEnt])).2.2
 have hmem := setRow_mem w b _ cs'.toArray T hb
 refine ⟨hmem, hst.write (Sum.inl s) (e := boxTEnt b T r0 x0 us) hk (b := b) (lo := 0) (by simp [boxTEnt]) hmem (fun i hi => setRow_other w b i cs'.toArray hi) (by simp [World.setRow]) rfl rfl rfl ?_ set1_ne ?_⟩
 ·intro o' v hh
  rw [hno o' (Nat.zero_le _)] at hh; cases hh
 ·intro e' he
  rw [set1_eq he]
  refine ⟨fun c hc => ?_, ⟨cs', hmem, hr, fun u hu => by cases hu⟩, fun u hu => by cases hu⟩
  have hc : c ∈ (b, 0) :: usCl [] := hc
  simp [usCl] at hc
  subst hc
  exact List.mem_cons_self
theorem ok_storeBoxAny {α' β' : Type} {T : TypeId} {r0 : Rep α'} {r1 : Rep β'} {ts0 : List TipS} {s : Nat} {v : Operand} {y : α'} {z : β'} (t : TyOk P T r1) (hsz : r0.sz = r1.sz) (hd : o.dst = none)
  (ho : o.op = .store T (.tmp s) v) (hv : OpdOk N v (fV r1 z)) : OpOk P o N [(s, boxT T r0 y ts0)] Fact.triv [(s, some (boxT T r1 z []))] := by
 intro κ B F L h a w hst hn hk _ next Q hnext
 obtain ⟨e, hL, b, us, hxv, _, _, rfl⟩ := hk.1
 have hxv' : a.eval (.tmp s) = .pointer (some ⟨b, 0, none⟩) := hxv
 obtain ⟨⟨cs, hb, hr, _⟩, _⟩ := boxT_at hst hL
 obtain ⟨c', hc', hvv⟩ := hv h a hn
 have hrun := run_store_cells (p := []) (c := cs) (q := []) t hc' (by simpa using hb) (by rw [r0.len hr, hsz])
 unfold Oper.wp
 have : (execOp a.eval o).run P w = .ok .skip (w.setRow b c'.toArray) := by
  simp only [List.length_nil, List.nil_append, List.append_nil] at hrun
  simp only [execOp, ho, hxv', hvv, Sem.run_bind, hrun, Result.andThen_ok, Sem.run_pure]
 rw [this]
 refine hnext undef h _ _ (Hle.refl h) trivial (hst.putAny hL hb hc').2 ?_
 rw [hd]
 exact upd_set1 ⟨b, [], hxv, trivial, ⟨List.Pairwise.nil, fun u hu => by cases hu⟩, rfl⟩
theorem ok_storeVJ {α' : Type} {T E : TypeId} {r0 : Rep α'} {ts0 : List TipS} {s d : Nat} {y : α'} {x : α} {ys : List β} (t : TyOk P T (Rep.hole l hz)) (hag : r.agg = true) (hsz : r0.sz = r.sz) (hsd : Nat.beq s d = false) (hd : o.dst = none)
  (ho : o.op = .store T (.tmp s) (.tmp d)) (hv : OpdOk N (.tmp d) (fVR (Rep.hole l hz) x)) : OpOk P o N [(s, boxT T r0 y ts0), (d, rowIn off E q ys)] Fact.triv [(s, some (jE T (Rep.hole l hz) x [] E q ys)), (d, none)] := by
 have hne : s ≠ d := fun x => by rw [nbeq.2 x] at hsd; cases hsd
 intro κ B F L h a w hst hn hk _ next Q hnext
 obtain ⟨e, hL, b, us, hxv, _, _, rfl⟩ := hk.1
 obtain ⟨e2, hL2, hq2⟩ := hk.2.1
 have hL2 : L d = some e2 := hL2
 have hxv' : a.eval (.tmp s) = .pointer (some ⟨b, 0, none⟩) := hxv
 obtain ⟨⟨cs, hb, hr, _⟩, _⟩ := boxT_at hst hL
 obtain ⟨sv, ⟨c', hc', hvv⟩, hq⟩ := rowIn_val hag (hv h a hn) hq2
 have hrun := run_store_cells (p := []) (c := cs) (q := []) t hc' (by simpa using hb) (by rw [r0.len hr]; exact hsz)
 unfold Oper.wp
 have hvv' : a.eval (.tmp d) = _ := hvv
 have : (execOp a.eval o).run P w = .ok .skip (w.setRow b c'.toArray) := by
  simp only [List.length_nil, List.nil_append, List.append_nil] at hrun
  simp only [execOp, ho, hxv', hvv', Sem.run_bind, hrun, Result.andThen_ok, Sem.run_pure]
 rw [this]
 obtain ⟨hmem, hst1⟩ := hst.putAny hL hb hc'
 have hLd : set1 L s (boxTEnt b T (Rep.hole l hz) (x, sv) []) d = some e2 := by simp [set1, Ne.symm hne, hL2]
 have hok2 : e2.ok h (World.mem (w.setRow b c'.toArray)) := (hst1.own (k := Sum.inl d) hLd).2
 have hdj : Disj (boxTEnt b T (Rep.hole l hz) (x, sv) []).claims e2.claims := hst1.disj (k := Sum.inl s) (k' := Sum.inl d) set1_at hLd (fun x => hne (Sum.inl.inj x))
 have hj := hst1.join2 (e := JEnt (boxTEnt b T (Rep.hole l hz) (x, sv) []) e2) set1_at hLd (fun c hc => List.mem_append.1 hc) ⟨⟨⟨c', hmem, hc', fun u hu => by cases hu⟩, fun u hu => by cases hu⟩, hok2⟩
 have hL' : ∀ e0 e3, KB.join2 (set1 L s e0) s d e3 = KB.join2 L s d e3 := by
  intro e0 e3; funext k; unfold KB.join2 set1
  by_cases h1 : k = d
  ·rw [if_pos h1, if_pos h1]
  ·rw [if_neg h1, if_neg h1]
   by_cases h2 : k = s
   ·rw [if_pos h2, if_pos h2]
   ·rw [if_neg h2, if_neg h2, if_neg h2]
 rw [hL'] at hj
 refine hnext undef h _ _ (Hle.refl h) trivial hj ?_
 rw [hd]
 exact upd_join2 hne ⟨sv, _, e2, ⟨b, [], hxv, trivial, ⟨List.Pairwise.nil, fun u hu => by cases hu⟩, rfl⟩, hq, hdj, rfl⟩
theorem ok_storeJ {T T' E : TypeId} {ts : List TipS} {s d : Nat} {x0 : Operand} {x x' : α} {sv0 : Value} {ys : List β} (t : TyOk P T (Rep.slice q)) (hap : apartB off 1 ts = true) (hsd : Nat.beq s d = false) (hd : o.dst = none) (ho : o.op = .store T x0 (.tmp d)) (hx : OpdOk N x0 (fOff s off))
  (he : set x [] = set x' []) : OpOk P o N [(s, boxT T' (Rep.hole l hz) (x, sv0) ts), (d, arrE E q ys)] Fact.triv [(s, some (jE T' (Rep.hole l hz) x' ts E q ys)), (d, none)] := by
 have hne : s ≠ d := fun x => by rw [nbeq.2 x] at hsd; cases hsd
 intro κ B F L h a w hst hn hk _ next Q hnext
 obtain ⟨b, hdv, hxv⟩ := hx h a hn
 obtain ⟨e, hL, b', us, hv', hta, hbo, rfl⟩ := hk.1
 obtain ⟨e2, hL2, hq2⟩ := hk.2.1
 have hL2 : L d = some e2 := hL2
 have hq2 : arrE E q ys (a.gt d) e2 := hq2
 have hd' : a.gt s = .pointer (some ⟨b, 0, none⟩) := hdv
 rw [hd'] at hv'; cases hv'
 have hone : (a.gt d).oneCell' = true := by rcases hq2 with ⟨⟨base, hv⟩, _⟩ | ⟨b, cap, hv, _⟩ <;> (rw [hv]; rfl)
 obtain ⟨p, c, q', hp, hrun, hcl, hmem, hrel, hget, hst'⟩ := run_storeT (Lens.holeR (l := l) (hz := hz)) t.raw hst hL hbo (List.Sublist.refl us) (fun u hu => by
  obtain ⟨t, ht, e⟩ := hta.offs u hu; rw [e]; exact apartB_spec hap t ht) (c' := [a.gt d]) (z := a.gt d) ⟨rfl, hone⟩
 unfold Oper.wp
 have : (execOp a.eval o).run P w = .ok .skip (w.setRow b (p ++ [a.gt d] ++ q').toArray) := by
  have hrun' : (Instr.storeAt T (.pointer (some ⟨b, off, none⟩)) (a.eval (.tmp d))).run P w = .ok () (w.setRow b (p ++ [a.gt d] ++ q').toArray) := hrun
  simp only [execOp, ho, hxv, Sem.run_bind, hrun', Result.andThen_ok, Sem.run_pure]
 rw [this]
 have hLd : set1 L s (boxTEnt b T' (Rep.hole l hz) (x, a.gt d) us) d = some e2 := by simp [set1, Ne.symm hne, hL2]
 have hok2 : e2.ok h (World.mem (w.setRow b (p ++ [a.gt d] ++ q').toArray)) := (hst'.own (k := Sum.inl d) hLd).2
 have hdj0 : Disj (boxTEnt b T' (Rep.hole l hz) (x, a.gt d) us).claims e2.claims := hst'.disj (k := Sum.inl s) (k' := Sum.inl d) set1_at hLd (fun x => hne (Sum.inl.inj x))
 have hdj : Disj (boxTEnt b T' (Rep.hole l hz) (x', a.gt d) us).claims e2.claims := hdj0
 obtain ⟨_, hu2⟩ := boxT_at hst' set1_at
 have hrel' : (Rep.hole l hz).rel h (p ++ [a.gt d] ++ q') (x', a.gt d) := by
  obtain ⟨p0, s0, h1, h2, h3, h4⟩ := hrel
  exact ⟨p0, s0, h1, h2, h3, by simp only [] at h4 ⊢; rw [← he]; exact h4⟩
 have hj := hst'.join2 (e := JEnt (boxTEnt b T' (Rep.hole l hz) (x', a.gt d) us) e2) set1_at hLd (fun c hc => List.mem_append.1 hc) ⟨⟨⟨_, hmem, hrel', hget⟩, hu2⟩, hok2⟩
 have hL' : ∀ e0 e3, KB.join2 (set1 L s e0) s d e3 = KB.join2 L s d e3 := by
  intro e0 e3; funext k; unfold KB.join2 set1
  by_cases h1 : k = d
  ·rw [if_pos h1, if_pos h1]
  ·rw [if_neg h1, if_neg h1]
   by_cases h2 : k = s
   ·rw [if_pos h2, if_pos h2]
   ·rw [if_neg h2, if_neg h2, if_neg h2]
 rw [hL'] at hj
 refine hnext undef h _ _ (Hle.refl h) trivial hj ?_
 rw [hd]
 exact upd_join2 hne ⟨a.gt d, _, e2, ⟨b, us, hd', hta, hbo, rfl⟩, hq2, hdj, rfl⟩
end
end Go.KB
namespace Go.KB
variable {P : Program} {o : Oper} {N : List (Nat × Fact)} {α β γ : Type}
def EqOk (P : Program) (d : Nat) (T : TypeId) (r : Rep α) (f : α → α → Bool) : Prop := ∀ h v u x y w, r.val h v x → r.val h u y → (Op.equalIn (d + 1) T v u).run P w = .ok (f x y) w
theorem EqOk.int {d : Nat} {T : TypeId} {k k' : IntKind} (hT : P.underlying T = some (.int k')) : EqOk P d T (Rep.int k) (fun x y => x == y) := by
 intro h v u x y w hv hu
 rw [val_int.1 hv, val_int.1 hu]
 exact run_equalIn_int w d T k k' x y hT
theorem EqOk.bool {d : Nat} {T : TypeId} (hT : P.underlying T = some .bool) : EqOk P d T Rep.bool (fun x y => x == y) := by
 intro h v u x y w hv hu
 rw [val_bool.1 hv, val_bool.1 hu]
 exact run_equalIn_bool' w d T x y hT
theorem EqOk.str {d : Nat} {T : TypeId} (hT : P.underlying T = some .string) : EqOk P d T Rep.str (fun x y => x == y) := by
 intro h v u x y w hv hu
 rw [val_str.1 hv, val_str.1 hu, run_equalIn_string w d T _ _ hT, ByteArray.toList_eq, ByteArray.toList_eq]
def nameB (P : Program) (T : TypeId) (i : Nat) : Bool :=
 match P.underlying T with
 | some (.struct fs) => match fs[i]? with
  | some g => g.name != "_"
  | none => false
 | _ => false
def EqTail (P : Program) (T : TypeId) (d : Nat) (r : Rep α) (i : Nat) (f : α → α → Bool) : Prop := ∀ h cs ds x y w, r.rel h cs x → r.rel h ds y → (Op.eqFields (d + 1) cs.toArray ds.toArray ((P.fieldsOf T).toList.drop i)).run P w = .ok (f x y) w
theorem EqTail.nil {T : TypeId} {d n : Nat} {r : Rep α} (hn : Nat.beq (P.fieldsOf T).size n = true) : EqTail P T d r n (fun _ _ => true) := by
 intro h cs ds x y w _ _
 have : (P.fieldsOf T).toList.drop n = [] := by rw [List.drop_eq_nil_iff]; simp [← nbeq.1 hn]
 rw [this]
 simp [Op.eqFields]
theorem EqTail.cons {T T' : TypeId} {d i off : Nat} {r : Rep α} {s : Rep β} {get : α → β} {set : α → β → α} {g : β → β → Bool} {f : α → α → Bool} (l : Lens r s off get set) (hf : fieldAtB P T i = some (T', off)) (hm : nameB P T i = true) (t : TyOk P T' s) (e : EqOk P d T' s g)
  (k : EqTail P T d r (i + 1) f) : EqTail P T d r i (fun x y => g (get x) (get y) && f x y) := by
 intro h cs ds x y w hx hy
 have hk := k h cs ds x y w hx hy
 unfold fieldAtB at hf
 unfold nameB at hm
 unfold Program.fieldsOf at hk ⊢
 split at hf
 ·rename_i fs hT
  rw [hT] at hm hk ⊢
  simp only [] at hm hk ⊢
  split at hf
  ·rename_i fd hfd
   rw [hfd] at hm
   simp only [Option.some.injEq, Prod.mk.injEq, bne_iff_ne] at hf hm
   obtain ⟨rfl, rfl⟩ := hf
   have hlt := (Array.getElem?_eq_some_iff.1 hfd).1
   have hdr : fs.toList.drop i = fd :: fs.toList.drop (i + 1) := by
    rw [List.drop_eq_getElem_cons (by simpa using hlt)]
    congr 1
    have := (Array.getElem?_eq_some_iff.1 hfd).2
    simpa using this
   rw [hdr]
   obtain ⟨p, c, q, rfl, hp, hc, _⟩ := l h cs x hx
   obtain ⟨p', c', q', rfl, hp', hc', _⟩ := l h ds y hy
   have h1 := run_part t (p := p) (r := q) hc w
   have h2 := run_part t (p := p') (r := q') hc' w
   rw [hp] at h1; rw [hp'] at h2
   have h3 := e h _ _ _ _ w ⟨c, hc, rfl⟩ ⟨c', hc', rfl⟩
   simp only [Op.eqFields, if_pos hm, Sem.run_bind, h1, h2, Result.andThen_ok, h3]
   cases g (get x) (get y) with
   | true => simpa using hk
   | false => simp
  ·cases hf
 ·cases hf
theorem EqOk.struct {T : TypeId} {d : Nat} {r : Rep α} {f : α → α → Bool} (hag : r.agg = true) (ht : P.underlying T = some (.struct (P.fieldsOf T))) (hp : P.stoodInHeld T = false) (k : EqTail P T d r 0 f) : EqOk P (d + 1) T r f := by
 intro h v u x y w ⟨cs, hx, hv⟩ ⟨ds, hy, hu⟩
 rw [hv, hu, hag]
 have := k h cs ds x y w hx hy
 rw [List.drop_zero] at this
 show (Op.equalIn (d + 1 + 1) T (.agg cs.toArray) (.agg ds.toArray)).run P w = _
 rw [run_equalIn_agg w (d + 1) T _ _ ht hp, this]
end Go.KB
