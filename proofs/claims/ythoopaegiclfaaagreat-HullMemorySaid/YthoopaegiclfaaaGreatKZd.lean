/- Variables with a field that is a row of one's own. Equality of structs; cuts with a capacity; deletion from a row. No condition. -/
import Derived.Test.YthoopaegiclfaaaGreatKZc
namespace Go.KB
variable {P : Program} {o : Oper} {N : List (Nat × jJr)} {α β γ : Type}
def Rep.raw : Rep Value where
 sz := 1
 agg := false
 rel := fun _ cs v => cs = [v] ∧ v.oneCell' = true
 zero := jK6
 zc := [jK6]
 one := fun _ => rfl
 len := fun e => by rw [e.1]; rfl
 flat := fun e c hc => by rw [e.1] at hc; simp at hc; rw [hc]; exact e.2
 mono := fun _ e => e
 zrel := fun _ => ⟨rfl, rfl⟩
theorem jZf.raw {T : TypeId} {q : Rep β} (t : jZf P T (Rep.slice q)) : jZf P T Rep.raw := ⟨t.size, t.agg, t.zero⟩
theorem qZ3 {h : H} {v x : Value} : Rep.raw.val h v x → v = x := fun ⟨_, e, e'⟩ => by rw [e', e.1]; rfl
section
variable {r : Rep α} {q : Rep β} {off : Nat} {get : α → List β} {set : α → List β → α}
def Rep.hole (l : Lens r (Rep.slice q) off get set) (hz : r.zc[off]? = some jK6) : Rep (α × Value) where
 sz := r.sz
 agg := r.agg
 rel := fun h cs x => ∃ p s, cs = p ++ [x.2] ++ s ∧ p.length = off ∧ x.2.oneCell' = true ∧ r.rel h (p ++ [jK6] ++ s) (set x.1 [])
 zero := (r.zero, jK6)
 zc := r.zc
 one := r.one
 len := by rintro h cs x ⟨p, s, rfl, hp, _, k⟩; have := r.len k; simpa using this
 flat := by
  rintro h cs x ⟨p, s, rfl, hp, hv, k⟩ c hc
  have := r.flat k c
  simp only [List.mem_append, List.mem_singleton] at hc this
  rcases hc with (hc | hc) | hc
  ·exact this (.inl (.inl hc))
  ·rw [hc]; exact hv
  ·exact this (.inr hc)
 mono := by rintro h h' cs x hl ⟨p, s, e, hp, hv, k⟩; exact ⟨p, s, e, hp, hv, r.mono hl k⟩
 zrel := fun h => by
  obtain ⟨p, c, s, e, hp, ⟨v, rfl, _⟩, k⟩ := l h _ _ (r.zrel h)
  have hv : v = jK6 := by
   rw [e, List.append_assoc, List.getElem?_append_right (by omega), hp] at hz
   simpa using hz
  subst hv
  exact ⟨p, s, e, hp, rfl, k h [jK6] [] (Hle.refl h) ⟨_, rfl, .inl ⟨⟨none, rfl⟩, rfl⟩⟩⟩
variable {l : Lens r (Rep.slice q) off get set} {hz : r.zc[off]? = some jK6}
theorem jZf.hole {T : TypeId} (t : jZf P T r) : jZf P T (Rep.hole l hz) := ⟨t.size, t.agg, t.zero⟩
theorem Lens.holeR : Lens (Rep.hole l hz) Rep.raw off (fun x => x.2) (fun x v => (x.1, v)) := by
 rintro h cs x ⟨p, s, rfl, hp, hv, k⟩
 refine ⟨p, [x.2], s, rfl, hp, ⟨rfl, hv⟩, ?_⟩
 rintro h' c' y hl ⟨rfl, hy⟩
 exact ⟨p, s, rfl, hp, hy, r.mono hl k⟩
theorem Lens.holeO {s : Rep γ} {off' : Nat} {get' : α → γ} {set' : α → γ → α} (l' : Lens r s off' get' set') (hd : (Nat.ble (off' + s.sz) off || Nat.blt off off') = true) (h1 : ∀ x, get' (set x []) = get' x) (h2 : ∀ x y, set (set' x y) [] = set' (set x []) y) :
    Lens (Rep.hole l hz) s off' (fun x => get' x.1) (fun x y => (set' x.1 y, x.2)) := by
  rintro h cs x ⟨p, t, rfl, hp, hv, k⟩
  obtain ⟨p2, c2, q2, e, hp2, hc2, k2⟩ := l' h _ _ k
  have hlc := s.len hc2
  have hd' : off' + s.sz ≤ off ∨ off < off' := by simpa [Nat.ble_eq, Nat.blt_eq] using hd
  have hg : s.rel h c2 (get' x.1) := by rw [← h1]; exact hc2
  rcases hd' with hd' | hd'
  · have ha : (p2 ++ c2) ++ q2 = p ++ ([jK6] ++ t) := by rw [← e, List.append_assoc]
    obtain ⟨m, hm⟩ : ∃ m, p = p2 ++ c2 ++ m := by
      have h3 := congrArg (List.take (p2 ++ c2).length) ha
      rw [List.take_left' rfl, List.take_append_of_le_length (by simp; omega)] at h3
      exact ⟨p.drop (p2 ++ c2).length, (List.take_append_drop (p2 ++ c2).length p).symm.trans (congrArg (· ++ p.drop (p2 ++ c2).length) h3.symm)⟩
    subst hm
    have hq2 : q2 = m ++ [jK6] ++ t := by
      have : (p2 ++ c2) ++ q2 = (p2 ++ c2) ++ (m ++ ([jK6] ++ t)) := by rw [ha]; simp
      have := List.append_cancel_left this
      rw [this, List.append_assoc]
    subst hq2
    refine ⟨p2, c2, m ++ [x.2] ++ t, by simp, hp2, hg, fun h' c' y hl hy => ?_⟩
    have h4 := k2 h' c' y hl hy
    rw [← h2] at h4
    refine ⟨p2 ++ c' ++ m, t, by simp, ?_, hv, ?_⟩
    · have := s.len hy; simp at hp ⊢; omega
    · simpa using h4
  · obtain ⟨m, hm⟩ : ∃ m, p2 = p ++ [jK6] ++ m := by
      have ha : p2 ++ (c2 ++ q2) = (p ++ [jK6]) ++ t := by rw [← List.append_assoc, e]
      have h3 := congrArg (List.take (p ++ [jK6]).length) ha
      rw [List.take_left' rfl, List.take_append_of_le_length (by simp; omega)] at h3
      exact ⟨p2.drop (p ++ [jK6]).length, (List.take_append_drop (p ++ [jK6]).length p2).symm.trans (congrArg (· ++ p2.drop (p ++ [jK6]).length) h3)⟩
    subst hm
    have ht : t = m ++ c2 ++ q2 := by
      have : (p ++ [jK6]) ++ t = (p ++ [jK6]) ++ (m ++ c2 ++ q2) := by rw [e]; simp
      exact List.append_cancel_left this
    subst ht
    refine ⟨p ++ [x.2] ++ m, c2, q2, by simp, by simp at hp2 ⊢; omega, hg, fun h' c' y hl hy => ?_⟩
    have h4 := k2 h' c' y hl hy
    rw [← h2] at h4
    exact ⟨p, m ++ c' ++ q2, by simp, hp, hv, by simpa using h4⟩

def jGm (sv : Value) (E : TypeId) (r : Rep α) (xs : List α) : jWm := fun _ e => jQs E r xs sv e
def jC6 (sv : Value) (off : Nat) : jJr := ⟨none, fun _ _ v => ∃ b len cap, sv = .slice (some ⟨b, 0, none⟩) len cap ∧ v = .pointer (some ⟨b, off, none⟩), fun _ x => x⟩
theorem jCb.raw {x : Operand} {g : Nat} {sv : Value} {E : TypeId} {r : Rep α} {xs : List α} (hx : jJ7 N x (fV Rep.raw sv)) : jCb N x g (jGm sv E r xs) E r xs := fun h a _ n k => by rw [qZ3 (hx h a n)]; exact k
theorem jSx {T E : TypeId} {r : Rep α} {g : Nat} {sv : Value} {k : IntKind} {x i : Operand} {xs : List α} {n : Int} {y : α} (hq : idx xs n = some y) (t : jZf P E r) (hT : P.underlying T = some (.slice E)) (ho : o.op = .indexAddr T x i) (hx : jJ7 N x (fV Rep.raw sv)) (hi : jJ7 N i (fV (Rep.int k) n)) :
  jXl P o N [(g, jGm sv E r xs)] (jC6 sv (n.toNat * r.sz)) [] := by
 obtain ⟨h0, h1, _⟩ := jX0 hq
 intro κ B F L h a w hst hn hk _ next Q hnext _
 obtain ⟨e, _, ⟨_, rfl, _⟩ | ⟨b, cap, hv, _, _⟩⟩ := hk.1
 ·exact absurd h1 (Nat.not_lt_zero _)
 have hx' : a.eval x = sv := qZ3 (hx h a hn)
 unfold Oper.wpK
 have hb : 0 ≤ n ∧ n < xs.length := by omega
 have : (execOp a.eval o).run P w = .ok (.value (.pointer (some ⟨b, n.toNat * r.sz, none⟩))) w := by
  simp [execOp, ho, hx', hv, jQt.1 (hi h a hn), Instr.indexAt, asIntOf, run_underlying hT, hb, t.size, Addr.add_mid]
 rw [this]
 exact hnext _ h w L (Hle.refl h) ⟨b, _, cap, hv, rfl⟩ hst jVa
theorem jD7 {T : TypeId} {i off off' : Nat} {sv : Value} {x : Operand} (hf : jJ9 P T i off) (ho : o.op = .fieldAddr T x i) (hx : jJ7 N x (jC6 sv off')) : jXl P o N [] (jC6 sv (off' + off)) [] :=
 jXl.ofRun fun h a w _ q => by
  obtain ⟨b, len, cap, hd, hv⟩ := hx h a q
  exact ⟨.pointer (some ⟨b, off' + off, none⟩), by simp [execOp, ho, hv, hf b off' w], b, len, cap, hd, rfl⟩
theorem qJd {T E : TypeId} {r : Rep α} {q : Rep β} {g off m : Nat} {sv : Value} {x : Operand} {xs : List α} {y : α} {get : α → β} {set : α → β → α} (hy : xs[m]? = some y) (l : Lens r q off get set) (t : jZf P T q) (ho : o.op = .load T x) (hx : jJ7 N x (jC6 sv (m * r.sz + off))) :
  jXl P o N [(g, jGm sv E r xs)] (fV q (get y)) [] := by
 intro κ B F L h a w hst hn hk _ next Q hnext _
 obtain ⟨b, len, cap, hd, hv⟩ := hx h a hn
 obtain ⟨e, hL, ⟨_, rfl, _⟩ | ⟨b', cap', hv', hc, rfl⟩⟩ := hk.1
 ·simp at hy
 rw [hd] at hv'; cases hv'
 obtain ⟨cs, rest, hb, hr, _⟩ := jM3 hst hL
 obtain ⟨p, c, q', rfl, hp, hcr, _⟩ := hr.get hy
 obtain ⟨p2, c2, q2, rfl, hp2, hc2, _⟩ := l h c y hcr
 unfold Oper.wpK
 have hrun := jYg (b := b) (off := m * r.sz + off) (w := w) t (q.len hc2) (fun j v hj => by
  rw [jKu _ _ _ _ _ _ hb]
  have hjl := (List.getElem?_eq_some_iff.1 hj).1
  simp only [List.getElem?_toArray]
  rw [show p ++ (p2 ++ c2 ++ q2) ++ q' ++ rest = (p ++ p2) ++ (c2 ++ (q2 ++ q' ++ rest)) by simp, List.getElem?_append_right (by simp; omega)]
  rw [show m * r.sz + off + j - (p ++ p2).length = j by simp; omega, List.getElem?_append_left hjl]; exact hj)
 have : (execOp a.eval o).run P w = .ok (.value (pack q.agg c2)) w := by simp [execOp, ho, hv, hrun]
 rw [this]
 exact hnext _ h w L (Hle.refl h) ⟨c2, hc2, rfl⟩ hst jVa
theorem jNw {T E : TypeId} {r : Rep α} {q : Rep β} {g off m : Nat} {sv : Value} {x v : Operand} {xs : List α} {y : α} {z : β} {get : α → β} {set : α → β → α} {xs' : List α} (hy : xs[m]? = some y) (l : Lens r q off get set) (t : jZf P T q) (hd : o.dst = none) (ho : o.op = .store T x v)
    (hx : jJ7 N x (jC6 sv (m * r.sz + off))) (hv : jJ7 N v (fV q z)) (hs' : xs' = xs.set m (set y z)) : jXl P o N [(g, jGm sv E r xs)] jJr.triv [(g, some (jGm sv E r xs'))] := by
  subst hs'
  intro κ B F L h a w hst hn hk _ next Q hnext _
  obtain ⟨b, len, cap, hdv, hxv⟩ := hx h a hn
  obtain ⟨e, hL, ⟨_, rfl, _⟩ | ⟨b', cap', hv', hc, rfl⟩⟩ := hk.1
  · simp at hy
  have hv0 := hv'
  rw [hdv] at hv'; cases hv'
  obtain ⟨cs, rest, hb, hr, hlen⟩ := jM3 hst hL
  obtain ⟨c', hc', hvv⟩ := hv h a hn
  obtain ⟨p, c, q', rfl, hp, hcr, hset⟩ := hr.get hy
  obtain ⟨p2, c2, q2, rfl, hp2, hc2, hset2⟩ := l h c y hcr
  have hsh : p ++ (p2 ++ c2 ++ q2) ++ q' ++ rest = (p ++ p2) ++ c2 ++ (q2 ++ q' ++ rest) := by simp
  have hsh' : (p ++ p2) ++ c' ++ (q2 ++ q' ++ rest) = (p ++ (p2 ++ c' ++ q2) ++ q') ++ rest := by simp
  have hb0 := hb
  rw [hsh] at hb
  have hrun := jZ4 t hc' hb (q.len hc2)
  unfold Oper.wpK
  have hpl : (p ++ p2).length = m * r.sz + off := by simp; omega
  have : (execOp a.eval o).run P w = .ok .skip (w.setRow b ((p ++ p2) ++ c' ++ (q2 ++ q' ++ rest)).toArray) := by
    simp only [execOp, ho, hxv, hvv, ← hpl, Sem.run_bind, hrun, Result.andThen_ok, Sem.run_pure]
  rw [this, hsh']
  obtain ⟨hcl, _⟩ := hst.own (k := Sum.inl g) hL
  have hno := (hcl (b, 0) (by simp [jZj])).2.2
  have hrel := hset h _ _ (Hle.refl h) (hset2 h c' z (Hle.refl h) hc')
  have hmem := jYe w b (p ++ (p2 ++ c2 ++ q2) ++ q' ++ rest).toArray ((p ++ (p2 ++ c' ++ q2) ++ q') ++ rest).toArray E hb0
  refine hnext undef h _ (set1 L g (jZj b E r (xs.set m (set y z)) cap)) (Hle.refl h) trivial ?_ ?_
  · refine hst.write (Sum.inl g) (e := jZj b E r xs cap) hL (b := b) (lo := 0) (by simp [jZj]) hmem (fun i hi => setRow_other w b i _ hi) (by simp [World.setRow]) rfl rfl rfl ?_ jY1 ?_
    · intro o' u hh; rw [hno o' (Nat.zero_le _)] at hh; cases hh
    · intro e' he
      rw [jYp he]
      refine ⟨fun c hc => hc, _, rest, hmem, hrel, ?_⟩
      rw [← hlen]
      have := q.len hc'; have := q.len hc2
      simp; omega
  · rw [hd]
    exact jZ7 (.inr ⟨b, cap, by rw [List.length_set]; exact hv0, by rw [List.length_set]; exact hc, rfl⟩)
theorem qJ6 {T E : TypeId} {r : Rep α} {g d : Nat} {sv : Value} {x y : Operand} {xs ys zs : List α} (hz : app xs ys = some zs) (el : jLt P E r) (hT : P.underlying T = some (.slice E)) (hsd : Nat.beq g d = false) (hd : o.dst = some d)
  (ho : o.op = .call { callee := .builtin .append, args := #[x, y], argTypes := #[T, T] }) (hx : jJ7 N x (fV Rep.raw sv)) (hy : jJ7 N y (fV (Rep.slice r) ys)) :
  jXl P o N [(g, jGm sv E r xs)] jJr.triv [(g, none), (d, some (jQs E r zs))] := jSw hz el hT hsd hd ho (jCb.raw hx) hy
theorem jT4 {g d i : Nat} {sv : Value} {E : TypeId} {r : Rep α} {xs0 : List α} {q' : jWm} {f : FuncId} {fn : Func} {args : List jJr} {post : jJr} {xs : Array Operand} {ts : Array TypeId} {y : Operand}
  (hc : jT5 P f args i (jQs E r xs0) q' post) (hf : P.funcs[f]? = some fn) (hbd : jH0 fn = true) (hd : jKk (post :: args) = true) (hsd : Nat.beq g d = false) (hdst : o.dst = some d)
  (ho : o.op = .call { callee := .value (.func f), args := xs, argTypes := ts }) (hy : xs.toList[i]? = some y) (hyx : jJ7 N y (fV Rep.raw sv)) (hargs : jGh N args xs.toList) : jXl P o N [(g, jGm sv E r xs0)] post [(g, none), (d, some q')] :=
 jTn hc hf hbd hd hsd hdst ho hy (jCb.raw hyx) hargs
theorem jF1 {T E : TypeId} {r : Rep α} {d : Nat} {n : Nat} {parts : Array (Nat × Operand)} (hn0 : n = 0) (hp : parts = #[]) (t : jZf P E r) (hT : P.underlying T = some (.slice E)) (hd : o.dst = some d) (ho : o.op = .buildSlice T n parts) : jXl P o N [] jJr.triv [(d, some (jQs E r []))] := by
 subst hn0; subst hp
 intro κ B F L h a w hst hn _ hdn next Q hnext _
 obtain ⟨cs, hr, hl, hrun⟩ := run_buildSlice (N := N) (n := 0) (parts := #[]) (ys := ([] : List α)) w t hT (by simp) (jX1 (place := fun i => some (i * r.sz, r.sz)) (r := r.arr 0)) hn
 unfold Oper.wpK
 have : (execOp a.eval o).run P w = .ok (.value (.slice (some ⟨w.heap.size, 0, none⟩) 0 0)) (w.alloc (.cells cs.toArray E)) := by
  simp only [execOp, ho, Sem.run_bind, hrun, Result.andThen_ok, Sem.run_pure]
 rw [this]
 refine hnext _ h _ (set1 L d (jZj w.heap.size E r ([] : List α) 0)) (Hle.refl h) trivial (hst.own_new _ d _ (by intro c hc; simp [jZj] at hc; rw [hc]) ⟨cs, [], by rw [List.append_nil]; exact jLz _ _, hr, by rw [List.append_nil, hr.len, hl]⟩) ?_
 rw [hd]
 exact jZ7 (.inr ⟨_, 0, jQa (hdn d hd), Nat.le_refl _, rfl⟩)
end
def JEnt (e1 e2 : Ent) : Ent where
 claims := e1.claims ++ e2.claims
 ok := fun h m => e1.ok h m ∧ e2.ok h m
 mono := fun hl x => ⟨e1.mono hl x.1, e2.mono hl x.2⟩
 frame := fun hm x => ⟨e1.frame (fun c hc => hm c (List.mem_append_left _ hc)) x.1, e2.frame (fun c hc => hm c (List.mem_append_right _ hc)) x.2⟩
section
variable {r : Rep α} {q : Rep β} {off : Nat} {get : α → List β} {set : α → List β → α} {l : Lens r (Rep.slice q) off get set} {hz : r.zc[off]? = some jK6}
def jE (T : TypeId) (R : Rep (α × Value)) (x : α) (ts : List jQy) (E : TypeId) (q : Rep β) (ys : List β) : jWm := fun v e => ∃ sv e1 e2, jXv T R (x, sv) ts v e1 ∧ jQs E q ys sv e2 ∧ qZ9 e1.claims e2.claims ∧ e = JEnt e1 e2
def fVR (R : Rep (α × Value)) (x : α) : jJr := ⟨none, fun h _ v => ∃ sv, R.val h v (x, sv), fun hl ⟨sv, k⟩ => ⟨sv, R.val_mono hl k⟩⟩
def jG5 (off : Nat) (E : TypeId) (q : Rep β) (ys : List β) : jWm := fun v e => ∃ cs sv, v = .agg cs ∧ cs[off]? = some sv ∧ jQs E q ys sv e
def jNe (q : jWm) : jWm := fun v e => ∃ x y z, v = .tuple #[x, y, z] ∧ q x e
theorem jRm {h : H} {cs : List Value} {x : α} {sv : Value} (k : (Rep.hole l hz).rel h cs (x, sv)) (hv : (Rep.slice q).rel h [sv] (get x)) (hs : set (set x []) (get x) = x) : r.rel h cs x := by
 obtain ⟨p, s, rfl, hp, _, k⟩ := k
 obtain ⟨p2, c2, s2, e, hp2, hc2, k2⟩ := l h _ _ k
 have hl2 := (Rep.slice q).len hc2
 obtain ⟨e1, e2⟩ := List.append_inj (show p ++ ([jK6] ++ s) = p2 ++ (c2 ++ s2) by rw [← List.append_assoc, e]; simp) (by omega)
 obtain ⟨_, e4⟩ := List.append_inj e2 (by rw [hl2]; rfl)
 subst e1; subst e4
 have := k2 h [sv] (get x) (Hle.refl h) hv
 rwa [hs] at this
theorem qYm {h : H} {cs : List Value} {x : α} (k : r.rel h cs x) : ∃ sv, (Rep.hole l hz).rel h cs (x, sv) := by
 obtain ⟨p, c, s, rfl, hp, hc, k2⟩ := l h _ _ k
 have hf := (Rep.slice q).flat hc
 obtain ⟨v, rfl, _⟩ := hc
 exact ⟨v, p, s, rfl, hp, hf v (by simp), k2 h [jK6] [] (Hle.refl h) ⟨_, rfl, .inl ⟨⟨none, rfl⟩, rfl⟩⟩⟩
theorem St.freezeK {κ : Type} {B : Base} {h : H} {L L' : κ → Option Ent} {w : World} (hst : St B h L w) (k : κ) {e : Ent} {E : TypeId} {ys : List β} {sv : Value} (hk : L k = some e) (hq : jQs E q ys sv e) (hL : ∀ k' e, k' ≠ k → L' k' = some e → L k' = some e) (hn : L' k = none) :
    ∃ h', Hle h h' ∧ St B h' L' w ∧ (Rep.slice q).rel h' [sv] ys := by
  rcases hq with ⟨⟨base, rfl⟩, rfl, rfl⟩ | ⟨b, cap, rfl, hc, rfl⟩
  · refine ⟨h, Hle.refl h, hst.less (fun k' e' he => hL k' e' (fun x => ?_) he), _, rfl, .inl ⟨⟨base, rfl⟩, rfl⟩⟩
    rw [x, hn] at he; cases he
  · obtain ⟨_, cs, rest, hb, hr, hlen⟩ := hst.own hk
    have hb' : w.heap[b]? = some (.cells (cs ++ rest).toArray E (0, 0)) := hb
    obtain ⟨hl2, hst2⟩ := hst.freeze k (e := jZj b E q ys cap) hk (b := b) (lo := 0) (by simp [jZj]) hb' cs.length (by simp) (L' := L') hL (fun e' he => by rw [hn] at he; cases he)
    have htk : (cs ++ rest).toArray.toList.take cs.length = cs := by simp
    rw [htk] at hl2 hst2
    refine ⟨_, hl2, hst2, _, rfl, .inr ⟨b, 0, cap, rfl, hc, (hr.mono hl2).refs fun j v hj => ?_, fun _ => hst.mo hk (c := (b, 0)) (by simp [jZj])⟩⟩
    have hjl := (List.getElem?_eq_some_iff.1 hj).1
    rw [Nat.zero_add, jHj hjl, ← hj, List.getElem?_eq_getElem hjl]

section
variable {κ : Type} {B : Base} {h0 : H} {Γ : Ctx} {Λ : Own} {F : κ → Option Ent} {n : Nat} {a : Act} {w : World} {T E : TypeId} {x : α} {ts : List jQy} {sv : Value} {ys : List β}
theorem At.toRaw (l : Lens r (Rep.slice q) off get set) (hz : r.zc[off]? = some jK6) (s : Nat) (hAt : At B h0 Γ Λ F n a w) (hs : Λ s = some (jXv T r x ts)) : ∃ sv, At B h0 Γ (fun k => bif Nat.beq s k then some (jXv T (Rep.hole l hz) (x, sv) ts) else Λ k) F n a w := by
 obtain ⟨h, L, hle, hst, hOw, hsat, hsz, hdf⟩ := hAt
 obtain ⟨e, hL, b, us, hv, hta, hbo, rfl⟩ := hOw s _ hs
 obtain ⟨⟨cs, hb, hr, hu1⟩, hu2⟩ := jUv hst hL
 obtain ⟨sv, hr'⟩ := qYm (l := l) (hz := hz) hr
 have hst' := hst.swap (e' := jZy b T (Rep.hole l hz) (x, sv) us) hL (fun c hc => ⟨c, hc, rfl, Nat.le_refl _⟩) ⟨⟨cs, hb, hr', hu1⟩, hu2⟩
 refine ⟨sv, h, _, hle, hst', ?_, hsat, hsz, hdf⟩
 intro k q hq
 cases hk : Nat.beq s k with
 | true =>
  simp only [hk, cond_true] at hq
  cases hq
  rw [jKb] at hk; subst hk
  exact ⟨_, jYw, b, _, hv, hta, hbo, rfl⟩
 | false =>
  simp only [hk, cond_false] at hq
  obtain ⟨e, he, hqe⟩ := hOw k q hq
  have : k ≠ s := fun x => by rw [jKb.2 x.symm] at hk; cases hk
  exact ⟨e, by simp [set1, this, he], hqe⟩
theorem At.reterm {x' : α} (s : Nat) (hAt : At B h0 Γ Λ F n a w) (hs : Λ s = some (jXv T (Rep.hole l hz) (x, sv) ts)) (he : set x [] = set x' []) : At B h0 Γ (fun k => bif Nat.beq s k then some (jXv T (Rep.hole l hz) (x', sv) ts) else Λ k) F n a w := by
 obtain ⟨h, L, hle, hst, hOw, hsat, hsz, hdf⟩ := hAt
 obtain ⟨e, hL, b, us, hv, hta, hbo, rfl⟩ := hOw s _ hs
 obtain ⟨⟨cs, hb, ⟨p, t, h1, h2, h3, h4⟩, hu1⟩, hu2⟩ := jUv hst hL
 have hst' := hst.swap (e' := jZy b T (Rep.hole l hz) (x', sv) us) hL (fun c hc => ⟨c, hc, rfl, Nat.le_refl _⟩) ⟨⟨cs, hb, ⟨p, t, h1, h2, h3, by simp only [] at h4 ⊢; rw [← he]; exact h4⟩, hu1⟩, hu2⟩
 refine ⟨h, _, hle, hst', ?_, hsat, hsz, hdf⟩
 intro k q hq
 cases hk : Nat.beq s k with
 | true =>
  simp only [hk, cond_true] at hq
  cases hq
  rw [jKb] at hk; subst hk
  exact ⟨_, jYw, b, _, hv, hta, hbo, rfl⟩
 | false =>
  simp only [hk, cond_false] at hq
  obtain ⟨e, he, hqe⟩ := hOw k q hq
  have : k ≠ s := fun x => by rw [jKb.2 x.symm] at hk; cases hk
  exact ⟨e, by simp [set1, this, he], hqe⟩
theorem At.jBs {R : Rep (α × Value)} (s g : Nat) (hsg : Nat.beq s g = false) (hAt : At B h0 Γ Λ F n a w) (hs : Λ s = some (jE T R x ts E q ys)) :
  ∃ sv, At B h0 Γ (fun k => bif Nat.beq s k then some (jXv T R (x, sv) ts) else bif Nat.beq g k then some (jGm sv E q ys) else Λ k) F n a w := by
 obtain ⟨h, L, hle, hst, hOw, hsat, hsz, hdf⟩ := hAt
 obtain ⟨e, hL, sv, e1, e2, h1, h2, hd, rfl⟩ := hOw s _ hs
 have hne : s ≠ g := fun x => by rw [jKb.2 x] at hsg; cases hsg
 obtain ⟨_, k1, k2⟩ := hst.own (k := Sum.inl s) hL
 have hst' := hst.split2 (d := g) (e1 := e1) (e2 := e2) hL hne (fun c hc => List.mem_append_left _ hc) (fun c hc => List.mem_append_right _ hc) hd k1 k2
 refine ⟨sv, h, _, hle, hst', ?_, hsat, hsz, hdf⟩
 intro k Q hq
 cases hk : Nat.beq s k with
 | true =>
  simp only [hk, cond_true] at hq
  cases hq
  rw [jKb] at hk; subst hk
  exact ⟨e1, by simp [set1, hne], h1⟩
 | false =>
  simp only [hk, cond_false] at hq
  cases hk2 : Nat.beq g k with
  | true =>
   simp only [hk2, cond_true] at hq
   cases hq
   rw [jKb] at hk2; subst hk2
   exact ⟨e2, by simp [set1], h2⟩
  | false =>
   simp only [hk2, cond_false] at hq
   obtain ⟨e, he, hqe⟩ := hOw k Q hq
   have h3 : k ≠ s := fun x => by rw [jKb.2 x.symm] at hk; cases hk
   have h4 : k ≠ g := fun x => by rw [jKb.2 x.symm] at hk2; cases hk2
   exact ⟨e, by simp [set1, h3, h4, he], hqe⟩
theorem At.freezeG (s g : Nat) (hsg : Nat.beq s g = false) (hAt : At B h0 Γ Λ F n a w) (hs : Λ s = some (jXv T (Rep.hole l hz) (x, sv) ts)) (hg : Λ g = some (jGm sv E q ys)) (he : ys = get x) (hx : set (set x []) (get x) = x) :
  At B h0 Γ (fun k => bif Nat.beq s k then some (jXv T r x ts) else bif Nat.beq g k then none else Λ k) F n a w := by
 subst he
 obtain ⟨h, L, hle, hst, hOw, hsat, hsz, hdf⟩ := hAt
 obtain ⟨e, hL, b, us, hv, hta, hbo, rfl⟩ := hOw s _ hs
 obtain ⟨eg, hLg, hqg⟩ := hOw g _ hg
 have hne : s ≠ g := fun x => by rw [jKb.2 x] at hsg; cases hsg
 obtain ⟨h', hl, hst', hsl⟩ := hst.freezeK (Sum.inl g) (L' := Sum.elim (fun k => if k = g then none else L k) F) hLg hqg (by
  intro k' e' hne he
  cases k' with
  | inr k => exact he
  | inl k =>
   have : k ≠ g := fun x => hne (by rw [x])
   simpa [this] using he) (by simp)
 have hLs : (fun k => if k = g then none else L k) s = some (jZy b T (Rep.hole l hz) (x, sv) us) := by simp [hne, hL]
 obtain ⟨⟨cs, hb, hr, hu1⟩, hu2⟩ := jUv hst' hLs
 have hst2 := hst'.swap (e' := jZy b T r x us) hLs (fun c hc => ⟨c, hc, rfl, Nat.le_refl _⟩) ⟨⟨cs, hb, jRm hr hsl hx, hu1⟩, hu2⟩
 refine ⟨h', _, hle.trans hl, hst2, ?_, fun k => (Γ k).mono hl (hsat k), hsz, hdf⟩
 intro k Q hq
 cases hk : Nat.beq s k with
 | true =>
  simp only [hk, cond_true] at hq
  cases hq
  rw [jKb] at hk; subst hk
  exact ⟨_, jYw, b, _, hv, hta, hbo, rfl⟩
 | false =>
  simp only [hk, cond_false] at hq
  cases hk2 : Nat.beq g k with
  | true => simp only [hk2, cond_true] at hq; cases hq
  | false =>
   simp only [hk2, cond_false] at hq
   obtain ⟨e, he, hqe⟩ := hOw k Q hq
   have h3 : k ≠ s := fun x => by rw [jKb.2 x.symm] at hk; cases hk
   have h4 : k ≠ g := fun x => by rw [jKb.2 x.symm] at hk2; cases hk2
   exact ⟨e, by simp [set1, h3, h4, he], hqe⟩
theorem At.newNil (E : TypeId) (q : Rep β) (g : Nat) (hAt : At B h0 Γ Λ F n a w) : At B h0 Γ (fun k => bif Nat.beq g k then some (jGm jK6 E q ([] : List β)) else Λ k) F n a w := by
 obtain ⟨h, L, hle, hst, hOw, hsat, hsz, hdf⟩ := hAt
 have hst' : St B h (Sum.elim (set1 L g jK1) F) w := by
  refine hst.step (Sum.inl g) (fun _ => False) (fun b hb => hb.elim) (Nat.le_refl _) rfl rfl rfl (fun _ _ _ => rfl) (Hle.refl h) (fun _ _ _ _ => rfl) ?_ jY1 ?_
  ·rintro b o' v (hb | hb) hv
   ·exact hb.elim
   ·rw [hst.fresh hb] at hv; cases hv
  ·intro e' he; rw [jYp he]; exact ⟨fun c hc => (by cases hc), trivial⟩
 refine ⟨h, _, hle, hst', ?_, hsat, hsz, hdf⟩
 intro k Q hq
 cases hk : Nat.beq g k with
 | true =>
  simp only [hk, cond_true] at hq
  cases hq
  rw [jKb] at hk; subst hk
  exact ⟨jK1, by simp [set1], .inl ⟨⟨none, rfl⟩, rfl, rfl⟩⟩
 | false =>
  simp only [hk, cond_false] at hq
  obtain ⟨e, he, hqe⟩ := hOw k Q hq
  have h3 : k ≠ g := fun x => by rw [jKb.2 x.symm] at hk; cases hk
  exact ⟨e, by simp [set1, h3, he], hqe⟩
theorem jA4 {R : Rep (α × Value)} {s : Nat} (t : jZf P T R) (hs : Λ s = some (jXv T R (x, sv) ts)) : qZ7 P Γ Λ (.cell s T) (fV R (x, sv)) := qVl t hs
theorem jA7 {h : H} {v : Value} {e : Ent} (hag : r.agg = true) (k : (Rep.hole l hz).val h v (x, sv)) (hq : jQs E q ys sv e) : jG5 off E q ys v e := by
 obtain ⟨cs, ⟨p, s, rfl, hp, _, _⟩, rfl⟩ := k
 have ha : (Rep.hole l hz).agg = true := hag
 rw [ha]
 exact ⟨_, sv, rfl, by simp [← hp], hq⟩
theorem qY5 {fn : Func} {s g : Nat} (hr : fn.results = #[.cell s T]) (t : jZf P T (Rep.hole l hz)) (hag : r.agg = true) (hs : Λ s = some (jXv T (Rep.hole l hz) (x, sv) ts)) (hg : Λ g = some (jGm sv E q ys)) (hAt : At B h0 Γ Λ F n a w) :
  jNk P fn B h0 F (jG5 off E q ys) (fVR (Rep.hole l hz) x) .ret a w := by
 obtain ⟨h, L, hl, hst, hOw, hsat, _, hdf⟩ := hAt
 obtain ⟨v, hv, hp⟩ := jA4 t hs _ B F h a w L hst hOw hsat
 obtain ⟨e, hL, hq⟩ := hOw g _ hg
 refine fun hB => .inl ⟨hdf.trans hB, v, ?_, v, h, e, rfl, hl, hst.one g hL, ⟨sv, hp⟩, jA7 hag hp hq⟩
 rw [jBx]; simp [hr, hv]
theorem qQf {fn : Func} {s g : Nat} {rv rv' : ResultVar} {f f' : jJr} (hr : fn.results = #[.cell s T, rv, rv']) (t : jZf P T (Rep.hole l hz)) (hag : r.agg = true) (hs : Λ s = some (jXv T (Rep.hole l hz) (x, sv) ts)) (hg : Λ g = some (jGm sv E q ys)) (h1 : qZ7 P Γ Λ rv f) (h2 : qZ7 P Γ Λ rv' f')
  (hAt : At B h0 Γ Λ F n a w) : jNk P fn B h0 F (jNe (jG5 off E q ys)) (fT3 (fVR (Rep.hole l hz) x) f f') .ret a w := by
 obtain ⟨h, L, hl, hst, hOw, hsat, _, hdf⟩ := hAt
 obtain ⟨v, hv, hp⟩ := jA4 t hs _ B F h a w L hst hOw hsat
 obtain ⟨v1, hv1, hp1⟩ := h1 _ B F h a w L hst hOw hsat
 obtain ⟨v2, hv2, hp2⟩ := h2 _ B F h a w L hst hOw hsat
 obtain ⟨e, hL, hq⟩ := hOw g _ hg
 refine fun hB => .inl ⟨hdf.trans hB, .tuple #[v, v1, v2], ?_, _, h, e, rfl, hl, hst.one g hL, ⟨v, v1, v2, rfl, ⟨sv, hp⟩, hp1, hp2⟩, v, v1, v2, rfl, jA7 hag hp hq⟩
 rw [jBx]; simp [hr, hv, hv1, hv2]
end
theorem jR2 {h : H} {v : Value} {e : Ent} {x : α} {E : TypeId} {ys : List β} (hag : r.agg = true) (k : (fVR (Rep.hole l hz) x).p h undef v) (hq : jG5 off E q ys v e) : ∃ sv, (Rep.hole l hz).val h v (x, sv) ∧ jQs E q ys sv e := by
 obtain ⟨sv, cs, ⟨p, s, rfl, hp, h3, h4⟩, hv⟩ := k
 obtain ⟨cs', sv', hv', hc, hq⟩ := hq
 have ha : (Rep.hole l hz).agg = true := hag
 rw [ha] at hv
 rw [hv] at hv'
 cases hv'
 have : sv = sv' := by
  simp [← hp] at hc; exact hc
 subst this
 exact ⟨sv, ⟨_, ⟨p, s, rfl, hp, h3, h4⟩, by rw [ha]; exact hv⟩, hq⟩
theorem FnOk.ofR {f : FuncId} {args : List jJr} {x : α} {E : TypeId} {ys : List β} (hc : jMr P f args (jG5 off E q ys) (fVR (Rep.hole l hz) x)) (hag : r.agg = true) (he : ys = get x) (hx : set (set x []) (get x) = x) : FnOk P f args (fV r x) := by
 subst he
 intro κ B L h w vs hst hl hargs
 refine (hc κ B L h w vs hst hl hargs).mono ?_
 rintro e w' ⟨v, h', x', rfl, hle, hst', hp, hq⟩
 obtain ⟨sv, ⟨cs, hr, hv⟩, hq⟩ := jR2 hag hp hq
 obtain ⟨h2, hl2, hst2, hsl⟩ := hst'.freezeK (Sum.inl ()) (L' := Sum.elim (fun _ : Unit => none) L) rfl hq (by
  intro k' e' hne he
  cases k' with
  | inr k => exact he
  | inl k => exact absurd rfl hne) rfl
 refine ⟨v, h2, rfl, hle.trans hl2, ?_, cs, jRm ((Rep.hole l hz).mono hl2 hr) hsl hx, hv⟩
 exact hst2.reind Sum.inr (fun _ _ x => x) (fun _ _ _ _ _ _ n e => n (Sum.inr.inj e))
theorem FnOk.ofR3 {f : FuncId} {args : List jJr} {x : α} {E : TypeId} {ys : List β} {f1 f2 : jJr} (hc : jMr P f args (jNe (jG5 off E q ys)) (fT3 (fVR (Rep.hole l hz) x) f1 f2)) (hag : r.agg = true) (he : ys = get x) (hx : set (set x []) (get x) = x) : FnOk P f args (fT3 (fV r x) f1 f2) := by
 subst he
 intro κ B L h w vs hst hl hargs
 refine (hc κ B L h w vs hst hl hargs).mono ?_
 rintro e w' ⟨v, h', x', rfl, hle, hst', ⟨v0, v1, v2, rfl, hp, hp1, hp2⟩, ⟨u0, u1, u2, hu, hq⟩⟩
 cases hu
 obtain ⟨sv, ⟨cs, hr, hv⟩, hq⟩ := jR2 hag hp hq
 obtain ⟨h2, hl2, hst2, hsl⟩ := hst'.freezeK (Sum.inl ()) (L' := Sum.elim (fun _ : Unit => none) L) rfl hq (by
  intro k' e' hne he
  cases k' with
  | inr k => exact he
  | inl k => exact absurd rfl hne) rfl
 refine ⟨_, h2, rfl, hle.trans hl2, ?_, v0, v1, v2, rfl, ⟨cs, jRm ((Rep.hole l hz).mono hl2 hr) hsl hx, hv⟩, f1.mono hl2 hp1, f2.mono hl2 hp2⟩
 exact hst2.reind Sum.inr (fun _ _ x => x) (fun _ _ _ _ _ _ n e => n (Sum.inr.inj e))
theorem jMl {q : jWm} {f g i : jJr} {s d : Nat} (hsd : Nat.beq s d = false) (hf : f.dep = none) (hd : o.dst = some d) (ho : o.op = .extract (.tmp s) 0) (hx : jJ7 N (.tmp s) (fT3 f g i)) : jXl P o N [(s, jNe q)] f [(s, none), (d, some q)] := by
 intro κ B F L h a w hst hn hk hdn next Q hnext _
 obtain ⟨e, hL, x, y, z, hv, hq⟩ := hk.1
 have hne : s ≠ d := fun x => by rw [jKb.2 x] at hsd; cases hsd
 have hv' : a.eval (.tmp s) = .tuple #[x, y, z] := hv
 obtain ⟨u0, u1, u2, hu, hp, _⟩ := hx h a hn
 rw [hv'] at hu; cases hu
 unfold Oper.wpK
 have : (execOp a.eval o).run P w = .ok (.value x) w := by simp [execOp, ho, hv', Instr.extract]
 rw [this]
 refine hnext _ h w _ (Hle.refl h) (by unfold jJr.dv; rw [hf]; exact hp) (hst.mv s d) ?_
 rw [hd]
 exact jP4 hne hL (by rw [jQa (hdn d hd)]; exact hq)
theorem St.putAny {κ : Type} {B : Base} {h : H} {L : Nat → Option Ent} {F : κ → Option Ent} {w : World} {α' β' : Type} (hst : St B h (Sum.elim L F) w) {s b : Nat} {T : TypeId} {r0 : Rep α'} {x0 : α'} {us : List (Nat × Value × Ent)} {cs cs' : List Value} {r1 : Rep β'} {y : β'}
  (hk : L s = some (jZy b T r0 x0 us)) (hb : w.heap[b]? = some (.cells cs.toArray T (0, 0))) (hr : r1.rel h cs' y) :
  World.mem (w.setRow b cs'.toArray) b = some (.cells cs'.toArray T (0, 0)) ∧ St B h (Sum.elim (set1 L s (jZy b T r1 y [])) F) (w.setRow b cs'.toArray) := by
 obtain ⟨hcl, _⟩ := hst.own (k := Sum.inl s) hk
 have hno := (hcl (b, 0) (by simp [jZy])).2.2
 have hmem := jYe w b _ cs'.toArray T hb
 refine ⟨hmem, hst.write (Sum.inl s) (e := jZy b T r0 x0 us) hk (b := b) (lo := 0) (by simp [jZy]) hmem (fun i hi => setRow_other w b i cs'.toArray hi) (by simp [World.setRow]) rfl rfl rfl ?_ jY1 ?_⟩
 ·intro o' v hh
  rw [hno o' (Nat.zero_le _)] at hh; cases hh
 ·intro e' he
  rw [jYp he]
  refine ⟨fun c hc => ?_, ⟨cs', hmem, hr, fun u hu => by cases hu⟩, fun u hu => by cases hu⟩
  have hc : c ∈ (b, 0) :: qQ5 [] := hc
  simp [qQ5] at hc
  subst hc
  exact List.mem_cons_self
theorem jYb {α' β' : Type} {T : TypeId} {r0 : Rep α'} {r1 : Rep β'} {ts0 : List jQy} {s : Nat} {v : Operand} {y : α'} {z : β'} (t : jZf P T r1) (hsz : r0.sz = r1.sz) (hd : o.dst = none)
  (ho : o.op = .store T (.tmp s) v) (hv : jJ7 N v (fV r1 z)) : jXl P o N [(s, jXv T r0 y ts0)] jJr.triv [(s, some (jXv T r1 z []))] := by
 intro κ B F L h a w hst hn hk _ next Q hnext _
 obtain ⟨e, hL, b, us, hxv, _, _, rfl⟩ := hk.1
 have hxv' : a.eval (.tmp s) = .pointer (some ⟨b, 0, none⟩) := hxv
 obtain ⟨⟨cs, hb, hr, _⟩, _⟩ := jUv hst hL
 obtain ⟨c', hc', hvv⟩ := hv h a hn
 have hrun := jZ4 (p := []) (c := cs) (q := []) t hc' (by simpa using hb) (by rw [r0.len hr, hsz])
 unfold Oper.wpK
 have : (execOp a.eval o).run P w = .ok .skip (w.setRow b c'.toArray) := by
  simp only [List.length_nil, List.nil_append, List.append_nil] at hrun
  simp only [execOp, ho, hxv', hvv, Sem.run_bind, hrun, Result.andThen_ok, Sem.run_pure]
 rw [this]
 refine hnext undef h _ _ (Hle.refl h) trivial (hst.putAny hL hb hc').2 ?_
 rw [hd]
 exact jZ7 ⟨b, [], hxv, trivial, ⟨List.Pairwise.nil, fun u hu => by cases hu⟩, rfl⟩
theorem jGs {α' : Type} {T E : TypeId} {r0 : Rep α'} {ts0 : List jQy} {s d : Nat} {y : α'} {x : α} {ys : List β} (t : jZf P T (Rep.hole l hz)) (hag : r.agg = true) (hsz : r0.sz = r.sz) (hsd : Nat.beq s d = false) (hd : o.dst = none)
  (ho : o.op = .store T (.tmp s) (.tmp d)) (hv : jJ7 N (.tmp d) (fVR (Rep.hole l hz) x)) : jXl P o N [(s, jXv T r0 y ts0), (d, jG5 off E q ys)] jJr.triv [(s, some (jE T (Rep.hole l hz) x [] E q ys)), (d, none)] := by
 have hne : s ≠ d := fun x => by rw [jKb.2 x] at hsd; cases hsd
 intro κ B F L h a w hst hn hk _ next Q hnext _
 obtain ⟨e, hL, b, us, hxv, _, _, rfl⟩ := hk.1
 obtain ⟨e2, hL2, hq2⟩ := hk.2.1
 have hL2 : L d = some e2 := hL2
 have hxv' : a.eval (.tmp s) = .pointer (some ⟨b, 0, none⟩) := hxv
 obtain ⟨⟨cs, hb, hr, _⟩, _⟩ := jUv hst hL
 obtain ⟨sv, ⟨c', hc', hvv⟩, hq⟩ := jR2 hag (hv h a hn) hq2
 have hrun := jZ4 (p := []) (c := cs) (q := []) t hc' (by simpa using hb) (by rw [r0.len hr]; exact hsz)
 unfold Oper.wpK
 have hvv' : a.eval (.tmp d) = _ := hvv
 have : (execOp a.eval o).run P w = .ok .skip (w.setRow b c'.toArray) := by
  simp only [List.length_nil, List.nil_append, List.append_nil] at hrun
  simp only [execOp, ho, hxv', hvv', Sem.run_bind, hrun, Result.andThen_ok, Sem.run_pure]
 rw [this]
 obtain ⟨hmem, hst1⟩ := hst.putAny hL hb hc'
 have hLd : set1 L s (jZy b T (Rep.hole l hz) (x, sv) []) d = some e2 := by simp [set1, Ne.symm hne, hL2]
 have hok2 : e2.ok h (World.mem (w.setRow b c'.toArray)) := (hst1.own (k := Sum.inl d) hLd).2
 have hdj : qZ9 (jZy b T (Rep.hole l hz) (x, sv) []).claims e2.claims := hst1.disj (k := Sum.inl s) (k' := Sum.inl d) jYw hLd (fun x => hne (Sum.inl.inj x))
 have hj := hst1.jD0 (e := JEnt (jZy b T (Rep.hole l hz) (x, sv) []) e2) jYw hLd (fun c hc => List.mem_append.1 hc) ⟨⟨⟨c', hmem, hc', fun u hu => by cases hu⟩, fun u hu => by cases hu⟩, hok2⟩
 have hL' : ∀ e0 e3, KB.jD0 (set1 L s e0) s d e3 = KB.jD0 L s d e3 := by
  intro e0 e3; funext k; unfold KB.jD0 set1
  by_cases h1 : k = d
  ·rw [if_pos h1, if_pos h1]
  ·rw [if_neg h1, if_neg h1]
   by_cases h2 : k = s
   ·rw [if_pos h2, if_pos h2]
   ·rw [if_neg h2, if_neg h2, if_neg h2]
 rw [hL'] at hj
 refine hnext undef h _ _ (Hle.refl h) trivial hj ?_
 rw [hd]
 exact jRr hne ⟨sv, _, e2, ⟨b, [], hxv, trivial, ⟨List.Pairwise.nil, fun u hu => by cases hu⟩, rfl⟩, hq, hdj, rfl⟩
theorem jDl {T T' E : TypeId} {ts : List jQy} {s d : Nat} {x0 : Operand} {x x' : α} {sv0 : Value} {ys : List β} (t : jZf P T (Rep.slice q)) (hap : apartB off 1 ts = true) (hsd : Nat.beq s d = false) (hd : o.dst = none) (ho : o.op = .store T x0 (.tmp d)) (hx : jJ7 N x0 (jZg s off))
  (he : set x [] = set x' []) : jXl P o N [(s, jXv T' (Rep.hole l hz) (x, sv0) ts), (d, jQs E q ys)] jJr.triv [(s, some (jE T' (Rep.hole l hz) x' ts E q ys)), (d, none)] := by
 have hne : s ≠ d := fun x => by rw [jKb.2 x] at hsd; cases hsd
 intro κ B F L h a w hst hn hk _ next Q hnext _
 obtain ⟨b, hdv, hxv⟩ := hx h a hn
 obtain ⟨e, hL, b', us, hv', hta, hbo, rfl⟩ := hk.1
 obtain ⟨e2, hL2, hq2⟩ := hk.2.1
 have hL2 : L d = some e2 := hL2
 have hq2 : jQs E q ys (a.gt d) e2 := hq2
 have hd' : a.gt s = .pointer (some ⟨b, 0, none⟩) := hdv
 rw [hd'] at hv'; cases hv'
 have hone : (a.gt d).oneCell' = true := by rcases hq2 with ⟨⟨base, hv⟩, _⟩ | ⟨b, cap, hv, _⟩ <;> (rw [hv]; rfl)
 obtain ⟨p, c, q', hp, hrun, hcl, hmem, hrel, hget, hst'⟩ := jLm (Lens.holeR (l := l) (hz := hz)) t.raw hst hL hbo (List.Sublist.refl us) (fun u hu => by
  obtain ⟨t, ht, e⟩ := hta.offs u hu; rw [e]; exact jBw hap t ht) (c' := [a.gt d]) (z := a.gt d) ⟨rfl, hone⟩
 unfold Oper.wpK
 have : (execOp a.eval o).run P w = .ok .skip (w.setRow b (p ++ [a.gt d] ++ q').toArray) := by
  have hrun' : (Instr.storeAt T (.pointer (some ⟨b, off, none⟩)) (a.eval (.tmp d))).run P w = .ok () (w.setRow b (p ++ [a.gt d] ++ q').toArray) := hrun
  simp only [execOp, ho, hxv, Sem.run_bind, hrun', Result.andThen_ok, Sem.run_pure]
 rw [this]
 have hLd : set1 L s (jZy b T' (Rep.hole l hz) (x, a.gt d) us) d = some e2 := by simp [set1, Ne.symm hne, hL2]
 have hok2 : e2.ok h (World.mem (w.setRow b (p ++ [a.gt d] ++ q').toArray)) := (hst'.own (k := Sum.inl d) hLd).2
 have hdj0 : qZ9 (jZy b T' (Rep.hole l hz) (x, a.gt d) us).claims e2.claims := hst'.disj (k := Sum.inl s) (k' := Sum.inl d) jYw hLd (fun x => hne (Sum.inl.inj x))
 have hdj : qZ9 (jZy b T' (Rep.hole l hz) (x', a.gt d) us).claims e2.claims := hdj0
 obtain ⟨_, hu2⟩ := jUv hst' jYw
 have hrel' : (Rep.hole l hz).rel h (p ++ [a.gt d] ++ q') (x', a.gt d) := by
  obtain ⟨p0, s0, h1, h2, h3, h4⟩ := hrel
  exact ⟨p0, s0, h1, h2, h3, by simp only [] at h4 ⊢; rw [← he]; exact h4⟩
 have hj := hst'.jD0 (e := JEnt (jZy b T' (Rep.hole l hz) (x', a.gt d) us) e2) jYw hLd (fun c hc => List.mem_append.1 hc) ⟨⟨⟨_, hmem, hrel', hget⟩, hu2⟩, hok2⟩
 have hL' : ∀ e0 e3, KB.jD0 (set1 L s e0) s d e3 = KB.jD0 L s d e3 := by
  intro e0 e3; funext k; unfold KB.jD0 set1
  by_cases h1 : k = d
  ·rw [if_pos h1, if_pos h1]
  ·rw [if_neg h1, if_neg h1]
   by_cases h2 : k = s
   ·rw [if_pos h2, if_pos h2]
   ·rw [if_neg h2, if_neg h2, if_neg h2]
 rw [hL'] at hj
 refine hnext undef h _ _ (Hle.refl h) trivial hj ?_
 rw [hd]
 exact jRr hne ⟨a.gt d, _, e2, ⟨b, us, hd', hta, hbo, rfl⟩, hq2, hdj, rfl⟩
end
end Go.KB
namespace Go.KB
variable {P : Program} {o : Oper} {N : List (Nat × jJr)} {α β γ : Type}
def jC0 (P : Program) (d : Nat) (T : TypeId) (r : Rep α) (f : α → α → Bool) : Prop := ∀ h v u x y w, r.val h v x → r.val h u y → (Op.equalIn (d + 1) T v u).run P w = .ok (f x y) w
theorem jC0.int {d : Nat} {T : TypeId} {k k' : IntKind} (hT : P.underlying T = some (.int k')) : jC0 P d T (Rep.int k) (fun x y => x == y) := by
 intro h v u x y w hv hu
 rw [jQt.1 hv, jQt.1 hu]
 exact run_equalIn_int w d T k k' x y hT
theorem jC0.bool {d : Nat} {T : TypeId} (hT : P.underlying T = some .bool) : jC0 P d T Rep.bool (fun x y => x == y) := by
 intro h v u x y w hv hu
 rw [jZa.1 hv, jZa.1 hu]
 exact run_equalIn_bool' w d T x y hT
theorem jC0.str {d : Nat} {T : TypeId} (hT : P.underlying T = some .string) : jC0 P d T Rep.str (fun x y => x == y) := by
 intro h v u x y w hv hu
 rw [jDz.1 hv, jDz.1 hu, run_equalIn_string w d T _ _ hT, ByteArray.toList_eq, ByteArray.toList_eq]
def nameB (P : Program) (T : TypeId) (i : Nat) : Bool :=
 match P.underlying T with
 | some (.struct fs) => match fs[i]? with
  | some g => g.name != "_"
  | none => false
 | _ => false
def jFk (P : Program) (T : TypeId) (d : Nat) (r : Rep α) (i : Nat) (f : α → α → Bool) : Prop := ∀ h cs ds x y w, r.rel h cs x → r.rel h ds y → (Op.eqFields (d + 1) cs.toArray ds.toArray ((P.fieldsOf T).toList.drop i)).run P w = .ok (f x y) w
theorem jFk.nil {T : TypeId} {d n : Nat} {r : Rep α} (hn : Nat.beq (P.fieldsOf T).size n = true) : jFk P T d r n (fun _ _ => true) := by
 intro h cs ds x y w _ _
 have : (P.fieldsOf T).toList.drop n = [] := by rw [List.drop_eq_nil_iff]; simp [← jKb.1 hn]
 rw [this]
 simp [Op.eqFields]
theorem jFk.cons {T T' : TypeId} {d i off : Nat} {r : Rep α} {s : Rep β} {get : α → β} {set : α → β → α} {g : β → β → Bool} {f : α → α → Bool} (l : Lens r s off get set) (hf : jG9 P T i = some (T', off)) (hm : nameB P T i = true) (t : jZf P T' s) (e : jC0 P d T' s g)
  (k : jFk P T d r (i + 1) f) : jFk P T d r i (fun x y => g (get x) (get y) && f x y) := by
 intro h cs ds x y w hx hy
 have hk := k h cs ds x y w hx hy
 unfold jG9 at hf
 unfold nameB at hm
 unfold Program.fieldsOf at hk ⊢
 split at hf
 ·rename_i fs hT
  rw [hT] at hm hk ⊢
  simp only [] at hm hk ⊢
  split at hf
  ·rename_i fd hfd
   rw [hfd] at hm
   simp only [Option.some.injEq, Prod.mk.injEq, bne_iff_ne] at hf hm
   obtain ⟨rfl, rfl⟩ := hf
   have hlt := (Array.getElem?_eq_some_iff.1 hfd).1
   have hdr : fs.toList.drop i = fd :: fs.toList.drop (i + 1) := by
    rw [List.drop_eq_getElem_cons (by simpa using hlt)]
    congr 1
    have := (Array.getElem?_eq_some_iff.1 hfd).2
    simpa using this
   rw [hdr]
   obtain ⟨p, c, q, rfl, hp, hc, _⟩ := l h cs x hx
   obtain ⟨p', c', q', rfl, hp', hc', _⟩ := l h ds y hy
   have h1 := jPh t (p := p) (r := q) hc w
   have h2 := jPh t (p := p') (r := q') hc' w
   rw [hp] at h1; rw [hp'] at h2
   have h3 := e h _ _ _ _ w ⟨c, hc, rfl⟩ ⟨c', hc', rfl⟩
   simp only [Op.eqFields, if_pos hm, Sem.run_bind, h1, h2, Result.andThen_ok, h3]
   cases g (get x) (get y) with
   | true => simpa using hk
   | false => simp
  ·cases hf
 ·cases hf
theorem jC0.struct {T : TypeId} {d : Nat} {r : Rep α} {f : α → α → Bool} (hag : r.agg = true) (ht : P.underlying T = some (.struct (P.fieldsOf T))) (hp : P.stoodInHeld T = false) (k : jFk P T d r 0 f) : jC0 P (d + 1) T r f := by
 intro h v u x y w ⟨cs, hx, hv⟩ ⟨ds, hy, hu⟩
 rw [hv, hu, hag]
 have := k h cs ds x y w hx hy
 rw [List.drop_zero] at this
 show (Op.equalIn (d + 1 + 1) T (.agg cs.toArray) (.agg ds.toArray)).run P w = _
 rw [run_equalIn_agg w (d + 1) T _ _ ht hp, this]
theorem qZp {T T' : TypeId} {r : Rep α} {f : α → α → Bool} {x y : Operand} {a b : α} (e : jC0 P 9999 T r f) (hag : r.agg = true) (hg : P.eqGuardType P.depth T = false) (ho : o.op = .binOp .neq T x y T') (hx : jJ7 N x (fV r a)) (hy : jJ7 N y (fV r b)) : jXl P o N [] (fV Rep.bool (!(f a b))) [] :=
 jXl.ofRun fun h ac w _ n => by
  obtain ⟨cs, h1, hv⟩ := hx h ac n
  obtain ⟨ds, h2, hu⟩ := hy h ac n
  have h3 := e h _ _ _ _ w ⟨cs, h1, rfl⟩ ⟨ds, h2, rfl⟩
  rw [hag] at hv hu h3
  refine ⟨.bool (!(f a b)), ?_, jZa.2 rfl⟩
  simp only [execOp, ho, hv, hu, pack, cond_true, run_eqGuard_agg w .neq T x y _ _ hg, run_neq_struct, Sem.run_bind, Result.andThen_ok, Sem.run_pure] at h3 ⊢
  rw [show (10000 : Nat) = 9999 + 1 from rfl, h3]; rfl
def cut3 (a b c n : Int) : Option Unit := bif decide (0 ≤ a) && decide (a ≤ b) && decide (b ≤ c) && decide (c ≤ n) then some () else none
theorem qX2 {a b c n : Int} {u : Unit} (h : cut3 a b c n = some u) : 0 ≤ a ∧ a ≤ b ∧ b ≤ c ∧ c ≤ n := by
 unfold cut3 at h
 cases hb : (decide (0 ≤ a) && decide (a ≤ b) && decide (b ≤ c) && decide (c ≤ n)) with
 | true => simp at hb; exact ⟨hb.1.1.1, hb.1.1.2, hb.1.2, hb.2⟩
 | false => rw [hb] at h; cases h
theorem jAv {T E : TypeId} {r : Rep α} {k1 k2 k3 : IntKind} {s : Nat} {x i j m : Operand} {xs : List α} {a1 a2 a3 : Int} {u : Unit} (hq : cut3 a1 a2 a3 (xs.length : Int) = some u) (t : jZf P E r) (hT : P.underlying T = some (.slice E)) (ho : o.op = .slice T x (some i) (some j) (some m))
  (hx : jJ7 N x (fCp s)) (hi : jJ7 N i (fV (Rep.int k1) a1)) (hj : jJ7 N j (fV (Rep.int k2) a2)) (hm : jJ7 N m (fV (Rep.int k3) a3)) : jXl P o N [(s, jQs E r xs)] jJr.triv [] := by
 obtain ⟨h0, h1, h2, h3⟩ := qX2 hq
 intro κ B F L h a w hst hn hk _ next Q hnext _
 obtain ⟨e, _, hq⟩ := hk.1
 have hx' : a.eval x = a.gt s := hx h a hn
 have : ∃ base cap, a.gt s = .slice base xs.length cap ∧ xs.length ≤ cap := by
  rcases hq with ⟨⟨base, hv⟩, rfl, _⟩ | ⟨b, cap, hv, hc, _⟩
  ·exact ⟨base, 0, hv, Nat.le_refl _⟩
  ·exact ⟨_, cap, hv, hc⟩
 obtain ⟨base, cap, hv, hc⟩ := this
 have e1 : 0 ≤ a3 ∧ a3 ≤ (cap : Int) := by omega
 have e2 : 0 ≤ a2 ∧ a2 ≤ a3 := by omega
 have e3 : 0 ≤ a1 ∧ a1 ≤ a2 := by omega
 have m3 : max a3 0 = a3 := by omega
 have m2 : max a2 0 = a2 := by omega
 unfold Oper.wpK
 have hrun : ∃ v, (execOp a.eval o).run P w = .ok (.value v) w := ⟨.slice (if a3.toNat = a1.toNat then base else base.map (·.add (a1.toNat * r.sz))) (a2.toNat - a1.toNat) (a3.toNat - a1.toNat), by
  simp [execOp, ho, hx', hv, jQt.1 (hi h a hn), jQt.1 (hj h a hn), jQt.1 (hm h a hn), Instr.sliceAt, Instr.slice, run_underlying hT, Instr.sliceBounds, Instr.sliceBound, asIntOf, e1, e2, e3, m2, m3, t.size]⟩
 obtain ⟨v, hrun⟩ := hrun
 rw [hrun]
 exact hnext _ h w L (Hle.refl h) trivial hst jVa
def qVf (E : TypeId) (r : Rep α) (ys : List α) (m : Nat) : jWm := fun v e => ((∃ base, v = .slice base 0 0) ∧ ys = [] ∧ e = jK1 ∧ m = 0) ∨ ∃ b cap, v = .slice (some ⟨b, 0, none⟩) ys.length cap ∧ ys.length ≤ cap ∧ m ≤ cap ∧ e = jZj b E r ys cap
def delc (xs : List α) (l1 n1 j m : Nat) : Option (List α) := bif Nat.beq l1 0 && Nat.ble n1 j && Nat.beq (j + m) xs.length then some (xs.take n1 ++ xs.drop j) else none
theorem qX3 {xs ys : List α} {l1 n1 j m : Nat} (h : delc xs l1 n1 j m = some ys) : l1 = 0 ∧ n1 ≤ j ∧ j + m = xs.length ∧ ys = xs.take n1 ++ xs.drop j := by
 unfold delc at h
 cases hb : (Nat.beq l1 0 && Nat.ble n1 j && Nat.beq (j + m) xs.length) with
 | true => rw [hb] at h; cases h; simp only [Bool.and_eq_true, Nat.beq_eq, Nat.ble_eq] at hb; exact ⟨hb.1.1, hb.1.2, hb.2, rfl⟩
 | false => rw [hb] at h; cases h
theorem jCn {T E : TypeId} {r : Rep α} {s d l1 n1 j m : Nat} {x y : Operand} {xs ys : List α} (hz : delc xs l1 n1 j m = some ys) (el : jLt P E r) (hT : P.underlying T = some (.slice E)) (hsd : Nat.beq s d = false) (hd : o.dst = some d)
  (ho : o.op = .call { callee := .builtin .append, args := #[x, y], argTypes := #[T, T] }) (hx : jJ7 N x (fSub s r.sz l1 n1)) (hy : jJ7 N y (fSub s r.sz j m)) :
  jXl P o N [(s, jQs E r xs)] jJr.triv [(s, none), (d, some (qVf E r ys xs.length))] := by
 obtain ⟨rfl, hij, hjm, rfl⟩ := qX3 hz
 obtain ⟨i, hi, hsz, hby, hzero⟩ := el.out
 have hne : s ≠ d := fun x => by rw [jKb.2 x] at hsd; cases hsd
 intro κ B F L h a w hst hn hk hdn next Q hnext _
 obtain ⟨e, hL, hq⟩ := hk.1
 have hL : L s = some e := hL
 have hq : jQs E r xs (a.gt s) e := hq
 have hrun : ∀ v w', (Builtin.append_ #[T, T] o.type #[a.eval x, a.eval y]).run P w = .ok v w' → (execOp a.eval o).run P w = .ok (.value v) w' := by
  intro v w' hr
  simp only [execOp, ho, resolve, invoke, builtin, Sem.run_bind, Sem.run_pure, Result.andThen_ok, List.map_toArray, List.map_cons, List.map_nil, hr]
 have hxv : (∃ base, a.gt s = .slice base 0 0 ∧ a.eval x = .slice base 0 0 ∧ (0 : Nat) = 0 ∧ n1 = 0) ∨ ∃ b p L cap, a.gt s = .slice (some ⟨b, p, none⟩) L cap ∧ 0 + n1 ≤ L ∧ a.eval x = .slice (some ⟨b, if cap = 0 then p else p + 0 * r.sz, none⟩) n1 (cap - 0) := hx h a hn
 have hyv : (∃ base, a.gt s = .slice base 0 0 ∧ a.eval y = .slice base 0 0 ∧ j = 0 ∧ m = 0) ∨ ∃ b p L cap, a.gt s = .slice (some ⟨b, p, none⟩) L cap ∧ j + m ≤ L ∧ a.eval y = .slice (some ⟨b, if cap = j then p else p + j * r.sz, none⟩) m (cap - j) := hy h a hn
 have hy0 : ∃ y' c', a.eval y = .slice y' m c' := by
  rcases hyv with ⟨base, _, h2, _, rfl⟩ | ⟨b, p, L, cap, _, _, h3⟩
  ·exact ⟨_, _, h2⟩
  ·exact ⟨_, _, h3⟩
 obtain ⟨y', c', hy0⟩ := hy0
 unfold Oper.wpK
 rcases hq with ⟨⟨base, hv⟩, rfl, rfl⟩ | ⟨b, cap, hv, hcap, rfl⟩
 ·simp only [List.length_nil] at hjm
  have hm0 : m = 0 := by omega
  have hn0 : n1 = 0 := by omega
  subst hm0; subst hn0
  have hxx : a.eval x = .slice base 0 0 := by
   rcases hxv with ⟨base', h1, h2, _⟩ | ⟨b, p, L, cap, h1, _, h3⟩
   ·rw [hv] at h1; cases h1; exact h2
   ·rw [hv] at h1; cases h1; simpa using h3
  rw [hrun _ _ (by rw [hxx, hy0]; exact run_append_nothing w hT hi base 0 0 (Nat.le_refl _) y' c')]
  refine hnext _ h w _ (Hle.refl h) trivial (hst.mv s d) ?_
  rw [hd]
  exact jP4 hne hL (by rw [jQa (hdn d hd)]; exact .inl ⟨⟨base, rfl⟩, by simp, rfl, by simp⟩)
 ·have hxx : a.eval x = .slice (some ⟨b, 0, none⟩) n1 cap := by
   rcases hxv with ⟨base', h1, h2, _, h4⟩ | ⟨b', p, L, cap', h1, _, h3⟩
   ·rw [hv] at h1; injection h1 with h5 h6 h7; rw [h2, ← h5, h7, h4]
   ·rw [hv] at h1; cases h1; simpa using h3
  obtain ⟨cs, rest, hb, hr0, hlen⟩ := jM3 hst hL
  have hlt : (xs.take n1).length = n1 := by rw [List.length_take]; omega
  by_cases hm0 : m = 0
  ·subst hm0
   have hdr : xs.take n1 ++ xs.drop j = xs.take n1 := by rw [show xs.drop j = [] by rw [List.drop_eq_nil_iff]; omega, List.append_nil]
   rw [hrun _ _ (by rw [hxx, hy0]; exact run_append_nothing w hT hi (some ⟨b, 0, none⟩) n1 cap (by omega) y' c')]
   have hst1 : St B h (Sum.elim (set1 L s (jZj b E r (xs.take n1) cap)) F) w := by
    obtain ⟨c, d', rfl, hr'⟩ := hr0.take n1 (by omega)
    refine hst.swap hL (fun c hc => ⟨c, hc, rfl, Nat.le_refl _⟩) ⟨c, d' ++ rest, ?_, hr', ?_⟩
    ·simpa [World.mem] using hb
    ·rw [← hlen]; simp
   refine hnext _ h w _ (Hle.refl h) trivial (hst1.mv s d) ?_
   rw [hd, hdr]
   exact jNs (fun k hk => by simp [set1, hk]) hne (by simp [set1]) (.inr ⟨b, cap, by rw [jQa (hdn d hd), hlt], by omega, by omega, rfl⟩)
  ·have hyy : a.eval y = .slice (some ⟨b, j * r.sz, none⟩) m (cap - j) := by
    rcases hyv with ⟨_, _, _, _, h4⟩ | ⟨b', p, L, cap', h1, _, h3⟩
    ·exact absurd h4 hm0
    ·rw [hv] at h1; cases h1
     rw [if_neg (by omega), Nat.zero_add] at h3; exact h3
   obtain ⟨c1, c2, rfl, hr1, hr2⟩ := hr0.split j (by omega)
   obtain ⟨a1, a2, hca, ha1⟩ := hr1.take n1 (by rw [List.length_take]; omega)
   have ht : (xs.take j).take n1 = xs.take n1 := by rw [List.take_take, Nat.min_eq_left hij]
   rw [ht] at ha1
   have hl1 : c1.length = j * r.sz := by rw [hr1.len, List.length_take]; congr 1; omega
   have hla : a1.length = n1 * r.sz := by rw [ha1.len, hlt]
   have hl2 : c2.length = m * r.sz := by rw [hr2.len, List.length_drop]; congr 1; omega
   have hroom : n1 + m ≤ cap := by omega
   have hlen' : c1.length + c2.length + rest.length = cap * r.sz := by rw [← hlen]; simp; omega
   have hmul : (n1 + m) * r.sz ≤ (j + m) * r.sz := Nat.mul_le_mul_right _ (by omega)
   rw [Nat.add_mul, Nat.add_mul] at hmul
   have hr := jG2 (P := P) (ty := o.type) w hT hi b 0 n1 cap (c1 ++ c2 ++ rest).toArray hb ⟨b, j * r.sz, none⟩ m (cap - j) c2 (by rw [hl2, hsz]) (fun t u hu => by
    rw [Addr.add_mid, jKu _ _ _ _ _ _ hb]
    have hul := (List.getElem?_eq_some_iff.1 hu).1
    simp only [List.getElem?_toArray]
    rw [List.append_assoc, List.getElem?_append_right (by omega), hl1, Nat.add_sub_cancel_left, List.getElem?_append_left hul]; exact hu) hr2.flat hroom (by rw [hsz]; simp; omega)
   rw [hsz, Nat.zero_add] at hr
   rw [hrun _ _ (by rw [hxx, hyy]; exact hr)]
   have htk : (c1 ++ c2 ++ rest).toArray.toList.take (n1 * r.sz) = a1 := by
    simp only []
    rw [hca, ← hla]; simp
   rw [htk]
   generalize hT' : List.drop (n1 * r.sz + c2.length) (c1 ++ c2 ++ rest).toArray.toList = T'
   have hTl : (a1 ++ c2).length + T'.length = cap * r.sz := by rw [← hT']; simp; omega
   obtain ⟨hcl, _⟩ := hst.own (k := Sum.inl s) hL
   have hno := (hcl (b, 0) (by simp [jZj])).2.2
   have hmem := jYe w b (c1 ++ c2 ++ rest).toArray ((a1 ++ c2) ++ T').toArray E hb
   have hst1 : St B h (Sum.elim (set1 L s (jZj b E r (xs.take n1 ++ xs.drop j) cap)) F) (w.setRow b ((a1 ++ c2) ++ T').toArray) := by
    refine hst.write (Sum.inl s) (e := jZj b E r xs cap) hL (b := b) (lo := 0) (by simp [jZj]) hmem (fun i hi => setRow_other w b i _ hi) (by simp [World.setRow]) rfl rfl rfl ?_ jY1 ?_
    ·intro o' u hh; rw [hno o' (Nat.zero_le _)] at hh; cases hh
    ·intro e' he
     rw [jYp he]
     exact ⟨fun c hc => hc, _, _, hmem, ha1.append hr2, by rw [List.length_append]; exact hTl⟩
   refine hnext _ h _ _ (Hle.refl h) trivial (hst1.mv s d) ?_
   have hly : (xs.take n1 ++ xs.drop j).length = n1 + m := by rw [List.length_append, hlt, List.length_drop]; omega
   rw [hd]
   exact jNs (fun k hk => by simp [set1, hk]) hne (by simp [set1]) (.inr ⟨b, cap, by rw [jQa (hdn d hd), hly], by omega, by omega, rfl⟩)
theorem qJu {E : TypeId} {r : Rep α} {ys : List α} {m : Nat} {v : Value} {e : Ent} (h : qVf E r ys m v e) : ∃ base cap, v = .slice base ys.length cap ∧ ys.length ≤ cap ∧ m ≤ cap := by
 rcases h with ⟨⟨base, hv⟩, rfl, _, rfl⟩ | ⟨b, cap, hv, hc, hm, _⟩
 ·exact ⟨base, 0, hv, Nat.le_refl _, Nat.le_refl _⟩
 ·exact ⟨_, cap, hv, hc, hm⟩
theorem qY0 {T E E' : TypeId} {r : Rep α} {s m : Nat} {x : Operand} {xs : List α} (hT : P.underlying T = some (.slice E')) (ho : o.op = .call { callee := .builtin .len, args := #[x], argTypes := #[T] }) (hx : jJ7 N x (fCp s)) :
  jXl P o N [(s, qVf E r xs m)] (fV (Rep.int .i64) (xs.length : Int)) [] := by
 intro κ B F L h a w hst hn hk _ next Q hnext _
 obtain ⟨e, _, hq⟩ := hk.1
 have hx' : a.eval x = a.gt s := hx h a hn
 obtain ⟨base, cap, hv, _⟩ := qJu hq
 have hv' : a.gt s = _ := hv
 have : (execOp a.eval o).run P w = .ok (.value (.int .i64 (xs.length : Int))) w := by
  simp [execOp, ho, resolve, invoke, builtin, Builtin.len_, hx', hv', run_underlying hT, goInt]
 unfold Oper.wpK
 rw [this]
 exact hnext _ h w L (Hle.refl h) (jQt.2 rfl) hst jVa
theorem qVd {b : Bool} {u : Unit} (h : (bif b then some () else none) = some u) : b = true := by cases b with
 | true => rfl
 | false => cases h
def qY2 (s sz lo n : Nat) : jJr := ⟨some s, fun _ d v => ∃ base cap, d = .slice base lo cap ∧ lo + n ≤ cap ∧ v = .slice (if cap = lo then base else base.map (·.add (lo * sz))) n (cap - lo), fun _ x => x⟩
theorem qVn {T E : TypeId} {r : Rep α} {s m : Nat} {k k' : IntKind} {x i j : Operand} {xs : List α} {a1 a2 : Int} (hq : (Nat.beq a1.toNat xs.length && Nat.ble a1.toNat a2.toNat && Nat.ble a2.toNat m && decide (0 ≤ a1) && decide (0 ≤ a2)) = true) (t : jZf P E r) (hT : P.underlying T = some (.slice E)) (ho : o.op = .slice T x (some i) (some j) none)
  (hx : jJ7 N x (fCp s)) (hi : jJ7 N i (fV (Rep.int k) a1)) (hj : jJ7 N j (fV (Rep.int k') a2)) : jXl P o N [(s, qVf E r xs m)] (qY2 s r.sz xs.length (a2.toNat - xs.length)) [] := by
 simp only [Bool.and_eq_true, Nat.beq_eq, Nat.ble_eq, decide_eq_true_eq] at hq
 obtain ⟨⟨⟨⟨q1, q2⟩, q3⟩, q4⟩, q5⟩ := hq
 have q1 : a1.toNat = xs.length := q1
 intro κ B F L h a w hst hn hk _ next Q hnext _
 obtain ⟨e, _, hq⟩ := hk.1
 have hx' : a.eval x = a.gt s := hx h a hn
 obtain ⟨base, cap, hv, hc, hm⟩ := qJu hq
 have hv' : a.gt s = _ := hv
 have e1 : 0 ≤ a2 ∧ a2 ≤ (cap : Int) := by omega
 have e2 : 0 ≤ a1 ∧ a1 ≤ a2 := by omega
 have m2 : max a2 0 = a2 := by omega
 unfold Oper.wpK
 have : (execOp a.eval o).run P w = .ok (.value (.slice (if cap = xs.length then base else base.map (·.add (xs.length * r.sz))) (a2.toNat - xs.length) (cap - xs.length))) w := by
  simp [execOp, ho, hx', hv', jQt.1 (hi h a hn), jQt.1 (hj h a hn), Instr.sliceAt, Instr.slice, run_underlying hT, Instr.sliceBounds, Instr.sliceBound, asIntOf, e1, e2, m2, t.size, q1]
 rw [this]
 exact hnext _ h w L (Hle.refl h) ⟨base, cap, hv', by omega, rfl⟩ hst jVa
theorem qJ7 {r : Rep α} (n : Nat) : ∀ v ∈ (Builtin.zeroCells (pack r.agg r.zc).cells n).toList, v.oneCell' = true := by
 intro v hv
 rw [jW8 (r.zrel ⟨fun _ _ => none, 0⟩)] at hv
 simp only [Builtin.zeroCells, Array.toList_map, List.mem_map] at hv
 obtain ⟨k, hk, rfl⟩ := hv
 have hs : 0 < r.zc.toArray.size := by
  simp only [Array.toList_range, List.mem_range] at hk
  by_cases h0 : r.zc.toArray.size = 0
  ·rw [h0, Nat.mul_zero] at hk; exact absurd hk (Nat.not_lt_zero _)
  ·omega
 have hlt := Nat.mod_lt k hs
 rw [getElem!_pos r.zc.toArray _ hlt]
 exact r.flat (r.zrel ⟨fun _ _ => none, 0⟩) _ (by simp)
theorem qX4 {T E : TypeId} {r : Rep α} {s m lo n : Nat} {x : Operand} {xs : List α} (hlo : lo = xs.length) (t : jZf P E r) (hT : P.underlying T = some (.slice E)) (hd : o.dst = none) (ho : o.op = .call { callee := .builtin .clear, args := #[x], argTypes := #[T] })
    (hx : jJ7 N x (qY2 s r.sz lo n)) : jXl P o N [(s, qVf E r xs m)] jJr.triv [(s, some (jQs E r xs))] := by
  subst hlo
  intro κ B F L h a w hst hn hk _ next Q hnext _
  obtain ⟨e, hL, hq⟩ := hk.1
  have hL : L s = some e := hL
  have hq : qVf E r xs m (a.gt s) e := hq
  obtain ⟨base, cap, hdv, hcap, hv⟩ := hx h a hn
  have hdv : a.gt s = _ := hdv
  unfold Oper.wpK
  have hrun : ∀ w', (Builtin.clear_ #[T] o.type #[a.eval x]).run P w = .ok (.tuple #[]) w' → (execOp a.eval o).run P w = .ok (.value (.tuple #[])) w' := by
    intro w' hr
    simp only [execOp, ho, resolve, invoke, builtin, Sem.run_bind, Sem.run_pure, Result.andThen_ok, List.map_toArray, List.map_cons, List.map_nil, hr]
  have hq' : jQs E r xs (a.gt s) e := by
    rcases hq with ⟨h1, h2, h3, _⟩ | ⟨b, cap, h1, h2, _, h3⟩
    · exact .inl ⟨h1, h2, h3⟩
    · exact .inr ⟨b, cap, h1, h2, h3⟩
  by_cases hn0 : n = 0
  · subst hn0
    rw [hrun w (by rw [hv]; cases base <;> (try split) <;> simp [Builtin.clear_, run_underlying hT])]
    refine hnext _ h w L (Hle.refl h) trivial hst ?_
    rw [hd]
    have := jZ7 (L := L) (s := s) (e := e) (d := none) (a := a.put none (.tuple #[])) (q := jQs E r xs) hq'
    rwa [jFc hL] at this
  · rcases hq with ⟨⟨base', hv'⟩, rfl, rfl, _⟩ | ⟨b, cap', hv', hc, _, rfl⟩
    · rw [hdv] at hv'; cases hv'
      simp at hcap; omega
    · rw [hdv] at hv'; cases hv'
      obtain ⟨cs, rest, hb, hr, hlen⟩ := jM3 hst hL
      rw [if_neg (by omega)] at hv
      have hv : a.eval x = .slice (some ⟨b, xs.length * r.sz, none⟩) n (cap - xs.length) := by rw [hv]; simp [Addr.add_mid]
      have hzc : (pack r.agg r.zc).cells.size = r.sz := by rw [jW8 (r.zrel h)]; simp [r.len (r.zrel h)]
      have hzl : (Builtin.zeroCells (pack r.agg r.zc).cells n).toList.length = n * r.sz := by rw [zlen, hzc]
      have hmul : (xs.length + n) * r.sz ≤ cap * r.sz := Nat.mul_le_mul_right _ hcap
      rw [Nat.add_mul] at hmul
      have hcl0 := hr.len
      have hlen' : cs.length + rest.length = cap * r.sz := by rw [← hlen, List.length_append]
      have hst0 := run_storeCells_at P b (xs.length * r.sz) E (Builtin.zeroCells (pack r.agg r.zc).cells n).toList 0 (cs ++ rest).toArray w hb (by rw [hzl]; simp; omega) (qJ7 n)
      simp only [Nat.add_zero] at hst0
      generalize hZ : (Builtin.zeroCells (pack r.agg r.zc).cells n).toList = Z at hst0 hzl
      have hnew : (cs ++ rest).toArray.toList.take (xs.length * r.sz) ++ Z ++ (cs ++ rest).toArray.toList.drop (xs.length * r.sz + Z.length) = cs ++ (Z ++ rest.drop Z.length) := by
        rw [← hcl0]; simp [List.drop_append]
      rw [hnew] at hst0
      obtain ⟨n', rfl⟩ : ∃ n', n = n' + 1 := ⟨n - 1, by omega⟩
      rw [hrun (w.setRow b (cs ++ (Z ++ rest.drop Z.length)).toArray) (by rw [hv]; simp [Builtin.clear_, run_underlying hT, t.zero, hZ, hst0])]
      obtain ⟨hcl, _⟩ := hst.own (k := Sum.inl s) hL
      have hno := (hcl (b, 0) (by simp [jZj])).2.2
      have hmem := jYe w b (cs ++ rest).toArray (cs ++ (Z ++ rest.drop Z.length)).toArray E hb
      refine hnext _ h _ (set1 L s (jZj b E r xs cap)) (Hle.refl h) trivial ?_ ?_
      · refine hst.write (Sum.inl s) (e := jZj b E r xs cap) hL (b := b) (lo := 0) (by simp [jZj]) hmem (fun i hi => setRow_other w b i _ hi) (by simp [World.setRow]) rfl rfl rfl ?_ jY1 ?_
        · intro o' u hh; rw [hno o' (Nat.zero_le _)] at hh; cases hh
        · intro e' he
          rw [jYp he]
          refine ⟨fun c hc => hc, cs, _, hmem, hr, ?_⟩
          rw [← hlen]; simp; omega
      · rw [hd]
        exact jZ7 (.inr ⟨b, cap, hdv, hc, rfl⟩)
end Go.KB
