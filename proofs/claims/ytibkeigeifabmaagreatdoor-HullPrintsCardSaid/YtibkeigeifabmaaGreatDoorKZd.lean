/- Variables with a field that is a row of one's own. Equality of structs; cuts with a capacity; deletion from a row. No condition. -/
import Derived.Test.YtibkeigeifabmaaGreatDoorKZc
namespace Go.KB
variable {P : Program} {o : Oper} {N : List (Nat × jJm)} {α β γ : Type}
def Rep.raw : Rep Value where
 sz := 1
 agg := false
 rel := fun _ cs v => cs = [v] ∧ v.oneCell' = true
 zero := jMf
 zc := [jMf]
 one := fun _ => rfl
 len := fun e => by rw [e.1]; rfl
 flat := fun e c hc => by rw [e.1] at hc; simp at hc; rw [hc]; exact e.2
 mono := fun _ e => e
 zrel := fun _ => ⟨rfl, rfl⟩
theorem jWm.raw {T : TypeId} {q : Rep β} (t : jWm P T (Rep.slice q)) : jWm P T Rep.raw := ⟨t.size, t.agg, t.zero⟩
theorem qHu {h : H} {v x : Value} : Rep.raw.val h v x → v = x := fun ⟨_, e, e'⟩ => by rw [e', e.1]; rfl
section
variable {r : Rep α} {q : Rep β} {off : Nat} {get : α → List β} {set : α → List β → α}
def Rep.hole (l : Lens r (Rep.slice q) off get set) (hz : r.zc[off]? = some jMf) : Rep (α × Value) where
 sz := r.sz
 agg := r.agg
 rel := fun h cs x => ∃ p s, cs = p ++ [x.2] ++ s ∧ p.length = off ∧ x.2.oneCell' = true ∧ r.rel h (p ++ [jMf] ++ s) (set x.1 [])
 zero := (r.zero, jMf)
 zc := r.zc
 one := r.one
 len := by rintro h cs x ⟨p, s, rfl, hp, _, k⟩; have := r.len k; simpa using this
 flat := by
  rintro h cs x ⟨p, s, rfl, hp, hv, k⟩ c hc
  have := r.flat k c
  simp only [List.mem_append, List.mem_singleton] at hc this
  rcases hc with (hc | hc) | hc
  ·exact this (.inl (.inl hc))
  ·rw [hc]; exact hv
  ·exact this (.inr hc)
 mono := by rintro h h' cs x hl ⟨p, s, e, hp, hv, k⟩; exact ⟨p, s, e, hp, hv, r.mono hl k⟩
 zrel := fun h => by
  obtain ⟨p, c, s, e, hp, ⟨v, rfl, _⟩, k⟩ := l h _ _ (r.zrel h)
  have hv : v = jMf := by
   rw [e, List.append_assoc, List.getElem?_append_right (by omega), hp] at hz
   simpa using hz
  subst hv
  exact ⟨p, s, e, hp, rfl, k h [jMf] [] (Hle.refl h) ⟨_, rfl, .inl ⟨⟨none, rfl⟩, rfl⟩⟩⟩
variable {l : Lens r (Rep.slice q) off get set} {hz : r.zc[off]? = some jMf}
theorem jWm.hole {T : TypeId} (t : jWm P T r) : jWm P T (Rep.hole l hz) := ⟨t.size, t.agg, t.zero⟩
theorem Lens.holeR : Lens (Rep.hole l hz) Rep.raw off (fun x => x.2) (fun x v => (x.1, v)) := by
 rintro h cs x ⟨p, s, rfl, hp, hv, k⟩
 refine ⟨p, [x.2], s, rfl, hp, ⟨rfl, hv⟩, ?_⟩
 rintro h' c' y hl ⟨rfl, hy⟩
 exact ⟨p, s, rfl, hp, hy, r.mono hl k⟩
theorem Lens.holeO {s : Rep γ} {off' : Nat} {get' : α → γ} {set' : α → γ → α} (l' : Lens r s off' get' set') (hd : (Nat.ble (off' + s.sz) off || Nat.blt off off') = true) (h1 : ∀ x, get' (set x []) = get' x) (h2 : ∀ x y, set (set' x y) [] = set' (set x []) y) :
    Lens (Rep.hole l hz) s off' (fun x => get' x.1) (fun x y => (set' x.1 y, x.2)) := by
  rintro h cs x ⟨p, t, rfl, hp, hv, k⟩
  obtain ⟨p2, c2, q2, e, hp2, hc2, k2⟩ := l' h _ _ k
  have hlc := s.len hc2
  have hd' : off' + s.sz ≤ off ∨ off < off' := by simpa [Nat.ble_eq, Nat.blt_eq] using hd
  have hg : s.rel h c2 (get' x.1) := by rw [← h1]; exact hc2
  rcases hd' with hd' | hd'
  · have ha : (p2 ++ c2) ++ q2 = p ++ ([jMf] ++ t) := by rw [← e, List.append_assoc]
    obtain ⟨m, hm⟩ : ∃ m, p = p2 ++ c2 ++ m := by
      have h3 := congrArg (List.take (p2 ++ c2).length) ha
      rw [List.take_left' rfl, List.take_append_of_le_length (by simp; omega)] at h3
      exact ⟨p.drop (p2 ++ c2).length, (List.take_append_drop (p2 ++ c2).length p).symm.trans (congrArg (· ++ p.drop (p2 ++ c2).length) h3.symm)⟩
    subst hm
    have hq2 : q2 = m ++ [jMf] ++ t := by
      have : (p2 ++ c2) ++ q2 = (p2 ++ c2) ++ (m ++ ([jMf] ++ t)) := by rw [ha]; simp
      have := List.append_cancel_left this
      rw [this, List.append_assoc]
    subst hq2
    refine ⟨p2, c2, m ++ [x.2] ++ t, by simp, hp2, hg, fun h' c' y hl hy => ?_⟩
    have h4 := k2 h' c' y hl hy
    rw [← h2] at h4
    refine ⟨p2 ++ c' ++ m, t, by simp, ?_, hv, ?_⟩
    · have := s.len hy; simp at hp ⊢; omega
    · simpa using h4
  · obtain ⟨m, hm⟩ : ∃ m, p2 = p ++ [jMf] ++ m := by
      have ha : p2 ++ (c2 ++ q2) = (p ++ [jMf]) ++ t := by rw [← List.append_assoc, e]
      have h3 := congrArg (List.take (p ++ [jMf]).length) ha
      rw [List.take_left' rfl, List.take_append_of_le_length (by simp; omega)] at h3
      exact ⟨p2.drop (p ++ [jMf]).length, (List.take_append_drop (p ++ [jMf]).length p2).symm.trans (congrArg (· ++ p2.drop (p ++ [jMf]).length) h3)⟩
    subst hm
    have ht : t = m ++ c2 ++ q2 := by
      have : (p ++ [jMf]) ++ t = (p ++ [jMf]) ++ (m ++ c2 ++ q2) := by rw [e]; simp
      exact List.append_cancel_left this
    subst ht
    refine ⟨p ++ [x.2] ++ m, c2, q2, by simp, by simp at hp2 ⊢; omega, hg, fun h' c' y hl hy => ?_⟩
    have h4 := k2 h' c' y hl hy
    rw [← h2] at h4
    exact ⟨p, m ++ c' ++ q2, by simp, hp, hv, by simpa using h4⟩

def qZv (sv : Value) (E : TypeId) (r : Rep α) (xs : List α) : jZp := fun _ e => jXv E r xs sv e
theorem qZq.raw {x : Operand} {g : Nat} {sv : Value} {E : TypeId} {r : Rep α} {xs : List α} (hx : jQb N x (fV Rep.raw sv)) : qZq N x g (qZv sv E r xs) E r xs := fun h a _ n k => by rw [qHu (hx h a n)]; exact k
theorem jP2 {T E : TypeId} {r : Rep α} {d : Nat} {n : Nat} {parts : Array (Nat × Operand)} (hn0 : n = 0) (hp : parts = #[]) (t : jWm P E r) (hT : P.underlying T = some (.slice E)) (hd : o.dst = some d) (ho : o.op = .buildSlice T n parts) : jXf P o N [] jJm.triv [(d, some (jXv E r []))] := by
 subst hn0; subst hp
 intro κ B F L h a w hst hn _ hdn next Q hnext _
 obtain ⟨cs, hr, hl, hrun⟩ := run_buildSlice (N := N) (n := 0) (parts := #[]) (ys := ([] : List α)) w t hT (by simp) (jXr (place := fun i => some (i * r.sz, r.sz)) (r := r.arr 0)) hn
 unfold Oper.wpK
 have : (execOp a.eval o).run P w = .ok (.value (.slice (some ⟨w.heap.size, 0, none⟩) 0 0)) (w.alloc (.cells cs.toArray E)) := by
  simp only [execOp, ho, Sem.run_bind, hrun, Result.andThen_ok, Sem.run_pure]
 rw [this]
 refine hnext _ h _ (set1 L d (jVy w.heap.size E r ([] : List α) 0)) (Hle.refl h) trivial (hst.own_new _ d _ (by intro c hc; simp [jVy] at hc; rw [hc]) ⟨cs, [], by rw [List.append_nil]; exact jBc _ _, hr, by rw [List.append_nil, hr.len, hl]⟩) ?_
 rw [hd]
 exact jZ6 (.inr ⟨_, 0, jQa (hdn d hd), Nat.le_refl _, rfl⟩)
end
def JEnt (e1 e2 : Ent) : Ent where
 claims := e1.claims ++ e2.claims
 ok := fun h m => e1.ok h m ∧ e2.ok h m
 mono := fun hl x => ⟨e1.mono hl x.1, e2.mono hl x.2⟩
 frame := fun hm x => ⟨e1.frame (fun c hc => hm c (List.mem_append_left _ hc)) x.1, e2.frame (fun c hc => hm c (List.mem_append_right _ hc)) x.2⟩
section
variable {r : Rep α} {q : Rep β} {off : Nat} {get : α → List β} {set : α → List β → α} {l : Lens r (Rep.slice q) off get set} {hz : r.zc[off]? = some jMf}
def jE (T : TypeId) (R : Rep (α × Value)) (x : α) (ts : List jQw) (E : TypeId) (q : Rep β) (ys : List β) : jZp := fun v e => ∃ sv e1 e2, jQf T R (x, sv) ts v e1 ∧ jXv E q ys sv e2 ∧ qU4 e1.claims e2.claims ∧ e = JEnt e1 e2
def fVR (R : Rep (α × Value)) (x : α) : jJm := ⟨none, fun h _ v => ∃ sv, R.val h v (x, sv), fun hl ⟨sv, k⟩ => ⟨sv, R.val_mono hl k⟩⟩
def qVr (off : Nat) (E : TypeId) (q : Rep β) (ys : List β) : jZp := fun v e => ∃ cs sv, v = .agg cs ∧ cs[off]? = some sv ∧ jXv E q ys sv e
theorem qWl {h : H} {cs : List Value} {x : α} {sv : Value} (k : (Rep.hole l hz).rel h cs (x, sv)) (hv : (Rep.slice q).rel h [sv] (get x)) (hs : set (set x []) (get x) = x) : r.rel h cs x := by
 obtain ⟨p, s, rfl, hp, _, k⟩ := k
 obtain ⟨p2, c2, s2, e, hp2, hc2, k2⟩ := l h _ _ k
 have hl2 := (Rep.slice q).len hc2
 obtain ⟨e1, e2⟩ := List.append_inj (show p ++ ([jMf] ++ s) = p2 ++ (c2 ++ s2) by rw [← List.append_assoc, e]; simp) (by omega)
 obtain ⟨_, e4⟩ := List.append_inj e2 (by rw [hl2]; rfl)
 subst e1; subst e4
 have := k2 h [sv] (get x) (Hle.refl h) hv
 rwa [hs] at this
theorem qHh {h : H} {cs : List Value} {x : α} (k : r.rel h cs x) : ∃ sv, (Rep.hole l hz).rel h cs (x, sv) := by
 obtain ⟨p, c, s, rfl, hp, hc, k2⟩ := l h _ _ k
 have hf := (Rep.slice q).flat hc
 obtain ⟨v, rfl, _⟩ := hc
 exact ⟨v, p, s, rfl, hp, hf v (by simp), k2 h [jMf] [] (Hle.refl h) ⟨_, rfl, .inl ⟨⟨none, rfl⟩, rfl⟩⟩⟩
theorem St.freezeK {κ : Type} {B : Base} {h : H} {L L' : κ → Option Ent} {w : World} (hst : St B h L w) (k : κ) {e : Ent} {E : TypeId} {ys : List β} {sv : Value} (hk : L k = some e) (hq : jXv E q ys sv e) (hL : ∀ k' e, k' ≠ k → L' k' = some e → L k' = some e) (hn : L' k = none) :
    ∃ h', Hle h h' ∧ St B h' L' w ∧ (Rep.slice q).rel h' [sv] ys := by
  rcases hq with ⟨⟨base, rfl⟩, rfl, rfl⟩ | ⟨b, cap, rfl, hc, rfl⟩
  · refine ⟨h, Hle.refl h, hst.less (fun k' e' he => hL k' e' (fun x => ?_) he), _, rfl, .inl ⟨⟨base, rfl⟩, rfl⟩⟩
    rw [x, hn] at he; cases he
  · obtain ⟨_, cs, rest, hb, hr, hlen⟩ := hst.own hk
    have hb' : w.heap[b]? = some (.cells (cs ++ rest).toArray E (0, 0)) := hb
    obtain ⟨hl2, hst2⟩ := hst.freeze k (e := jVy b E q ys cap) hk (b := b) (lo := 0) (by simp [jVy]) hb' cs.length (by simp) (L' := L') hL (fun e' he => by rw [hn] at he; cases he)
    have htk : (cs ++ rest).toArray.toList.take cs.length = cs := by simp
    rw [htk] at hl2 hst2
    refine ⟨_, hl2, hst2, _, rfl, .inr ⟨b, 0, cap, rfl, hc, (hr.mono hl2).refs fun j v hj => ?_, fun _ => hst.mo hk (c := (b, 0)) (by simp [jVy])⟩⟩
    have hjl := (List.getElem?_eq_some_iff.1 hj).1
    rw [Nat.zero_add, jHw hjl, ← hj, List.getElem?_eq_getElem hjl]

section
variable {κ : Type} {B : Base} {h0 : H} {Γ : Ctx} {Λ : Own} {F : κ → Option Ent} {n : Nat} {a : Act} {w : World} {T E : TypeId} {x : α} {ts : List jQw} {sv : Value} {ys : List β}
theorem At.toRaw (l : Lens r (Rep.slice q) off get set) (hz : r.zc[off]? = some jMf) (s : Nat) (hAt : At B h0 Γ Λ F n a w) (hs : Λ s = some (jQf T r x ts)) : ∃ sv, At B h0 Γ (fun k => bif Nat.beq s k then some (jQf T (Rep.hole l hz) (x, sv) ts) else Λ k) F n a w := by
 obtain ⟨h, L, hle, hst, hOw, hsat, hsz, hdf⟩ := hAt
 obtain ⟨e, hL, b, us, hv, hta, hbo, rfl⟩ := hOw s _ hs
 obtain ⟨⟨cs, hb, hr, hu1⟩, hu2⟩ := jGr hst hL
 obtain ⟨sv, hr'⟩ := qHh (l := l) (hz := hz) hr
 have hst' := hst.swap (e' := jZy b T (Rep.hole l hz) (x, sv) us) hL (fun c hc => ⟨c, hc, rfl, Nat.le_refl _⟩) ⟨⟨cs, hb, hr', hu1⟩, hu2⟩
 refine ⟨sv, h, _, hle, hst', ?_, hsat, hsz, hdf⟩
 intro k q hq
 cases hk : Nat.beq s k with
 | true =>
  simp only [hk, cond_true] at hq
  cases hq
  rw [jWh] at hk; subst hk
  exact ⟨_, jYa, b, _, hv, hta, hbo, rfl⟩
 | false =>
  simp only [hk, cond_false] at hq
  obtain ⟨e, he, hqe⟩ := hOw k q hq
  have : k ≠ s := fun x => by rw [jWh.2 x.symm] at hk; cases hk
  exact ⟨e, by simp [set1, this, he], hqe⟩
theorem At.reterm {x' : α} (s : Nat) (hAt : At B h0 Γ Λ F n a w) (hs : Λ s = some (jQf T (Rep.hole l hz) (x, sv) ts)) (he : set x [] = set x' []) : At B h0 Γ (fun k => bif Nat.beq s k then some (jQf T (Rep.hole l hz) (x', sv) ts) else Λ k) F n a w := by
 obtain ⟨h, L, hle, hst, hOw, hsat, hsz, hdf⟩ := hAt
 obtain ⟨e, hL, b, us, hv, hta, hbo, rfl⟩ := hOw s _ hs
 obtain ⟨⟨cs, hb, ⟨p, t, h1, h2, h3, h4⟩, hu1⟩, hu2⟩ := jGr hst hL
 have hst' := hst.swap (e' := jZy b T (Rep.hole l hz) (x', sv) us) hL (fun c hc => ⟨c, hc, rfl, Nat.le_refl _⟩) ⟨⟨cs, hb, ⟨p, t, h1, h2, h3, by simp only [] at h4 ⊢; rw [← he]; exact h4⟩, hu1⟩, hu2⟩
 refine ⟨h, _, hle, hst', ?_, hsat, hsz, hdf⟩
 intro k q hq
 cases hk : Nat.beq s k with
 | true =>
  simp only [hk, cond_true] at hq
  cases hq
  rw [jWh] at hk; subst hk
  exact ⟨_, jYa, b, _, hv, hta, hbo, rfl⟩
 | false =>
  simp only [hk, cond_false] at hq
  obtain ⟨e, he, hqe⟩ := hOw k q hq
  have : k ≠ s := fun x => by rw [jWh.2 x.symm] at hk; cases hk
  exact ⟨e, by simp [set1, this, he], hqe⟩
theorem At.jTf {R : Rep (α × Value)} (s g : Nat) (hsg : Nat.beq s g = false) (hAt : At B h0 Γ Λ F n a w) (hs : Λ s = some (jE T R x ts E q ys)) :
  ∃ sv, At B h0 Γ (fun k => bif Nat.beq s k then some (jQf T R (x, sv) ts) else bif Nat.beq g k then some (qZv sv E q ys) else Λ k) F n a w := by
 obtain ⟨h, L, hle, hst, hOw, hsat, hsz, hdf⟩ := hAt
 obtain ⟨e, hL, sv, e1, e2, h1, h2, hd, rfl⟩ := hOw s _ hs
 have hne : s ≠ g := fun x => by rw [jWh.2 x] at hsg; cases hsg
 obtain ⟨_, k1, k2⟩ := hst.own (k := Sum.inl s) hL
 have hst' := hst.split2 (d := g) (e1 := e1) (e2 := e2) hL hne (fun c hc => List.mem_append_left _ hc) (fun c hc => List.mem_append_right _ hc) hd k1 k2
 refine ⟨sv, h, _, hle, hst', ?_, hsat, hsz, hdf⟩
 intro k Q hq
 cases hk : Nat.beq s k with
 | true =>
  simp only [hk, cond_true] at hq
  cases hq
  rw [jWh] at hk; subst hk
  exact ⟨e1, by simp [set1, hne], h1⟩
 | false =>
  simp only [hk, cond_false] at hq
  cases hk2 : Nat.beq g k with
  | true =>
   simp only [hk2, cond_true] at hq
   cases hq
   rw [jWh] at hk2; subst hk2
   exact ⟨e2, by simp [set1], h2⟩
  | false =>
   simp only [hk2, cond_false] at hq
   obtain ⟨e, he, hqe⟩ := hOw k Q hq
   have h3 : k ≠ s := fun x => by rw [jWh.2 x.symm] at hk; cases hk
   have h4 : k ≠ g := fun x => by rw [jWh.2 x.symm] at hk2; cases hk2
   exact ⟨e, by simp [set1, h3, h4, he], hqe⟩
theorem qUg {R : Rep (α × Value)} {s : Nat} (t : jWm P T R) (hs : Λ s = some (jQf T R (x, sv) ts)) : qQc P Γ Λ (.cell s T) (fV R (x, sv)) := qU6 t hs
theorem qKy {h : H} {v : Value} {e : Ent} (hag : r.agg = true) (k : (Rep.hole l hz).val h v (x, sv)) (hq : jXv E q ys sv e) : qVr off E q ys v e := by
 obtain ⟨cs, ⟨p, s, rfl, hp, _, _⟩, rfl⟩ := k
 have ha : (Rep.hole l hz).agg = true := hag
 rw [ha]
 exact ⟨_, sv, rfl, by simp [← hp], hq⟩
theorem ret1R {fn : Func} {s g : Nat} (hr : fn.results = #[.cell s T]) (t : jWm P T (Rep.hole l hz)) (hag : r.agg = true) (hs : Λ s = some (jQf T (Rep.hole l hz) (x, sv) ts)) (hg : Λ g = some (qZv sv E q ys)) (hAt : At B h0 Γ Λ F n a w) :
  jCl P fn B h0 F (qVr off E q ys) (fVR (Rep.hole l hz) x) .ret a w := by
 obtain ⟨h, L, hl, hst, hOw, hsat, _, hdf⟩ := hAt
 obtain ⟨v, hv, hp⟩ := qUg t hs _ B F h a w L hst hOw hsat
 obtain ⟨e, hL, hq⟩ := hOw g _ hg
 refine fun hB => .inl ⟨hdf.trans hB, v, ?_, v, h, e, rfl, hl, hst.one g hL, ⟨sv, hp⟩, qKy hag hp hq⟩
 rw [jUh]; simp [hr, hv]
end
theorem qV9 {h : H} {v : Value} {e : Ent} {x : α} {E : TypeId} {ys : List β} (hag : r.agg = true) (k : (fVR (Rep.hole l hz) x).p h undef v) (hq : qVr off E q ys v e) : ∃ sv, (Rep.hole l hz).val h v (x, sv) ∧ jXv E q ys sv e := by
 obtain ⟨sv, cs, ⟨p, s, rfl, hp, h3, h4⟩, hv⟩ := k
 obtain ⟨cs', sv', hv', hc, hq⟩ := hq
 have ha : (Rep.hole l hz).agg = true := hag
 rw [ha] at hv
 rw [hv] at hv'
 cases hv'
 have : sv = sv' := by
  simp [← hp] at hc; exact hc
 subst this
 exact ⟨sv, ⟨_, ⟨p, s, rfl, hp, h3, h4⟩, by rw [ha]; exact hv⟩, hq⟩
theorem FnOk.ofR {f : FuncId} {args : List jJm} {x : α} {E : TypeId} {ys : List β} (hc : jCw P f args (qVr off E q ys) (fVR (Rep.hole l hz) x)) (hag : r.agg = true) (he : ys = get x) (hx : set (set x []) (get x) = x) : FnOk P f args (fV r x) := by
 subst he
 intro κ B L h w vs hst hl hargs
 refine (hc κ B L h w vs hst hl hargs).mono ?_
 rintro e w' ⟨v, h', x', rfl, hle, hst', hp, hq⟩
 obtain ⟨sv, ⟨cs, hr, hv⟩, hq⟩ := qV9 hag hp hq
 obtain ⟨h2, hl2, hst2, hsl⟩ := hst'.freezeK (Sum.inl ()) (L' := Sum.elim (fun _ : Unit => none) L) rfl hq (by
  intro k' e' hne he
  cases k' with
  | inr k => exact he
  | inl k => exact absurd rfl hne) rfl
 refine ⟨v, h2, rfl, hle.trans hl2, ?_, cs, qWl ((Rep.hole l hz).mono hl2 hr) hsl hx, hv⟩
 exact hst2.reind Sum.inr (fun _ _ x => x) (fun _ _ _ _ _ _ n e => n (Sum.inr.inj e))
theorem St.putAny {κ : Type} {B : Base} {h : H} {L : Nat → Option Ent} {F : κ → Option Ent} {w : World} {α' β' : Type} (hst : St B h (Sum.elim L F) w) {s b : Nat} {T : TypeId} {r0 : Rep α'} {x0 : α'} {us : List (Nat × Value × Ent)} {cs cs' : List Value} {r1 : Rep β'} {y : β'}
  (hk : L s = some (jZy b T r0 x0 us)) (hb : w.heap[b]? = some (.cells cs.toArray T (0, 0))) (hr : r1.rel h cs' y) :
  World.mem (w.setRow b cs'.toArray) b = some (.cells cs'.toArray T (0, 0)) ∧ St B h (Sum.elim (set1 L s (jZy b T r1 y [])) F) (w.setRow b cs'.toArray) := by
 obtain ⟨hcl, _⟩ := hst.own (k := Sum.inl s) hk
 have hno := (hcl (b, 0) (by simp [jZy])).2.2
 have hmem := jUg w b _ cs'.toArray T hb
 refine ⟨hmem, hst.write (Sum.inl s) (e := jZy b T r0 x0 us) hk (b := b) (lo := 0) (by simp [jZy]) hmem (fun i hi => setRow_other w b i cs'.toArray hi) (by simp [World.setRow]) rfl rfl rfl ?_ jY8 ?_⟩
 ·intro o' v hh
  rw [hno o' (Nat.zero_le _)] at hh; cases hh
 ·intro e' he
  rw [jY9 he]
  refine ⟨fun c hc => ?_, ⟨cs', hmem, hr, fun u hu => by cases hu⟩, fun u hu => by cases hu⟩
  have hc : c ∈ (b, 0) :: qZc [] := hc
  simp [qZc] at hc
  subst hc
  exact List.mem_cons_self
theorem jTq {α' β' : Type} {T : TypeId} {r0 : Rep α'} {r1 : Rep β'} {ts0 : List jQw} {s : Nat} {v : Operand} {y : α'} {z : β'} (t : jWm P T r1) (hsz : r0.sz = r1.sz) (hd : o.dst = none)
  (ho : o.op = .store T (.tmp s) v) (hv : jQb N v (fV r1 z)) : jXf P o N [(s, jQf T r0 y ts0)] jJm.triv [(s, some (jQf T r1 z []))] := by
 intro κ B F L h a w hst hn hk _ next Q hnext _
 obtain ⟨e, hL, b, us, hxv, _, _, rfl⟩ := hk.1
 have hxv' : a.eval (.tmp s) = .pointer (some ⟨b, 0, none⟩) := hxv
 obtain ⟨⟨cs, hb, hr, _⟩, _⟩ := jGr hst hL
 obtain ⟨c', hc', hvv⟩ := hv h a hn
 have hrun := jWl (p := []) (c := cs) (q := []) t hc' (by simpa using hb) (by rw [r0.len hr, hsz])
 unfold Oper.wpK
 have : (execOp a.eval o).run P w = .ok .skip (w.setRow b c'.toArray) := by
  simp only [List.length_nil, List.nil_append, List.append_nil] at hrun
  simp only [execOp, ho, hxv', hvv, Sem.run_bind, hrun, Result.andThen_ok, Sem.run_pure]
 rw [this]
 refine hnext undef h _ _ (Hle.refl h) trivial (hst.putAny hL hb hc').2 ?_
 rw [hd]
 exact jZ6 ⟨b, [], hxv, trivial, ⟨List.Pairwise.nil, fun u hu => by cases hu⟩, rfl⟩
theorem qV2 {T T' E : TypeId} {ts : List jQw} {s d : Nat} {x0 : Operand} {x x' : α} {sv0 : Value} {ys : List β} (t : jWm P T (Rep.slice q)) (hap : apartB off 1 ts = true) (hsd : Nat.beq s d = false) (hd : o.dst = none) (ho : o.op = .store T x0 (.tmp d)) (hx : jQb N x0 (jZu s off))
  (he : set x [] = set x' []) : jXf P o N [(s, jQf T' (Rep.hole l hz) (x, sv0) ts), (d, jXv E q ys)] jJm.triv [(s, some (jE T' (Rep.hole l hz) x' ts E q ys)), (d, none)] := by
 have hne : s ≠ d := fun x => by rw [jWh.2 x] at hsd; cases hsd
 intro κ B F L h a w hst hn hk _ next Q hnext _
 obtain ⟨b, hdv, hxv⟩ := hx h a hn
 obtain ⟨e, hL, b', us, hv', hta, hbo, rfl⟩ := hk.1
 obtain ⟨e2, hL2, hq2⟩ := hk.2.1
 have hL2 : L d = some e2 := hL2
 have hq2 : jXv E q ys (a.gt d) e2 := hq2
 have hd' : a.gt s = .pointer (some ⟨b, 0, none⟩) := hdv
 rw [hd'] at hv'; cases hv'
 have hone : (a.gt d).oneCell' = true := by rcases hq2 with ⟨⟨base, hv⟩, _⟩ | ⟨b, cap, hv, _⟩ <;> (rw [hv]; rfl)
 obtain ⟨p, c, q', hp, hrun, hcl, hmem, hrel, hget, hst'⟩ := jFm (Lens.holeR (l := l) (hz := hz)) t.raw hst hL hbo (List.Sublist.refl us) (fun u hu => by
  obtain ⟨t, ht, e⟩ := hta.offs u hu; rw [e]; exact jBt hap t ht) (c' := [a.gt d]) (z := a.gt d) ⟨rfl, hone⟩
 unfold Oper.wpK
 have : (execOp a.eval o).run P w = .ok .skip (w.setRow b (p ++ [a.gt d] ++ q').toArray) := by
  have hrun' : (Instr.storeAt T (.pointer (some ⟨b, off, none⟩)) (a.eval (.tmp d))).run P w = .ok () (w.setRow b (p ++ [a.gt d] ++ q').toArray) := hrun
  simp only [execOp, ho, hxv, Sem.run_bind, hrun', Result.andThen_ok, Sem.run_pure]
 rw [this]
 have hLd : set1 L s (jZy b T' (Rep.hole l hz) (x, a.gt d) us) d = some e2 := by simp [set1, Ne.symm hne, hL2]
 have hok2 : e2.ok h (World.mem (w.setRow b (p ++ [a.gt d] ++ q').toArray)) := (hst'.own (k := Sum.inl d) hLd).2
 have hdj0 : qU4 (jZy b T' (Rep.hole l hz) (x, a.gt d) us).claims e2.claims := hst'.disj (k := Sum.inl s) (k' := Sum.inl d) jYa hLd (fun x => hne (Sum.inl.inj x))
 have hdj : qU4 (jZy b T' (Rep.hole l hz) (x', a.gt d) us).claims e2.claims := hdj0
 obtain ⟨_, hu2⟩ := jGr hst' jYa
 have hrel' : (Rep.hole l hz).rel h (p ++ [a.gt d] ++ q') (x', a.gt d) := by
  obtain ⟨p0, s0, h1, h2, h3, h4⟩ := hrel
  exact ⟨p0, s0, h1, h2, h3, by simp only [] at h4 ⊢; rw [← he]; exact h4⟩
 have hj := hst'.jNx (e := JEnt (jZy b T' (Rep.hole l hz) (x', a.gt d) us) e2) jYa hLd (fun c hc => List.mem_append.1 hc) ⟨⟨⟨_, hmem, hrel', hget⟩, hu2⟩, hok2⟩
 have hL' : ∀ e0 e3, KB.jNx (set1 L s e0) s d e3 = KB.jNx L s d e3 := by
  intro e0 e3; funext k; unfold KB.jNx set1
  by_cases h1 : k = d
  ·rw [if_pos h1, if_pos h1]
  ·rw [if_neg h1, if_neg h1]
   by_cases h2 : k = s
   ·rw [if_pos h2, if_pos h2]
   ·rw [if_neg h2, if_neg h2, if_neg h2]
 rw [hL'] at hj
 refine hnext undef h _ _ (Hle.refl h) trivial hj ?_
 rw [hd]
 exact jAb hne ⟨a.gt d, _, e2, ⟨b, us, hd', hta, hbo, rfl⟩, hq2, hdj, rfl⟩
end
end Go.KB
namespace Go.KB
variable {P : Program} {o : Oper} {N : List (Nat × jJm)} {α β γ : Type}
def qJv (P : Program) (d : Nat) (T : TypeId) (r : Rep α) (f : α → α → Bool) : Prop := ∀ h v u x y w, r.val h v x → r.val h u y → (Op.equalIn (d + 1) T v u).run P w = .ok (f x y) w
theorem qJv.int {d : Nat} {T : TypeId} {k k' : IntKind} (hT : P.underlying T = some (.int k')) : qJv P d T (Rep.int k) (fun x y => x == y) := by
 intro h v u x y w hv hu
 rw [jQ3.1 hv, jQ3.1 hu]
 exact run_equalIn_int w d T k k' x y hT
theorem qJv.bool {d : Nat} {T : TypeId} (hT : P.underlying T = some .bool) : qJv P d T Rep.bool (fun x y => x == y) := by
 intro h v u x y w hv hu
 rw [jZx.1 hv, jZx.1 hu]
 exact run_equalIn_bool' w d T x y hT
theorem qJv.str {d : Nat} {T : TypeId} (hT : P.underlying T = some .string) : qJv P d T Rep.str (fun x y => x == y) := by
 intro h v u x y w hv hu
 rw [jVl.1 hv, jVl.1 hu, run_equalIn_string w d T _ _ hT, ByteArray.toList_eq, ByteArray.toList_eq]
def nameB (P : Program) (T : TypeId) (i : Nat) : Bool :=
 match P.underlying T with
 | some (.struct fs) => match fs[i]? with
  | some g => g.name != "_"
  | none => false
 | _ => false
def jLj (P : Program) (T : TypeId) (d : Nat) (r : Rep α) (i : Nat) (f : α → α → Bool) : Prop := ∀ h cs ds x y w, r.rel h cs x → r.rel h ds y → (Op.eqFields (d + 1) cs.toArray ds.toArray ((P.fieldsOf T).toList.drop i)).run P w = .ok (f x y) w
theorem jLj.nil {T : TypeId} {d n : Nat} {r : Rep α} (hn : Nat.beq (P.fieldsOf T).size n = true) : jLj P T d r n (fun _ _ => true) := by
 intro h cs ds x y w _ _
 have : (P.fieldsOf T).toList.drop n = [] := by rw [List.drop_eq_nil_iff]; simp [← jWh.1 hn]
 rw [this]
 simp [Op.eqFields]
theorem jLj.cons {T T' : TypeId} {d i off : Nat} {r : Rep α} {s : Rep β} {get : α → β} {set : α → β → α} {g : β → β → Bool} {f : α → α → Bool} (l : Lens r s off get set) (hf : jHb P T i = some (T', off)) (hm : nameB P T i = true) (t : jWm P T' s) (e : qJv P d T' s g)
  (k : jLj P T d r (i + 1) f) : jLj P T d r i (fun x y => g (get x) (get y) && f x y) := by
 intro h cs ds x y w hx hy
 have hk := k h cs ds x y w hx hy
 unfold jHb at hf
 unfold nameB at hm
 unfold Program.fieldsOf at hk ⊢
 split at hf
 ·rename_i fs hT
  rw [hT] at hm hk ⊢
  simp only [] at hm hk ⊢
  split at hf
  ·rename_i fd hfd
   rw [hfd] at hm
   simp only [Option.some.injEq, Prod.mk.injEq, bne_iff_ne] at hf hm
   obtain ⟨rfl, rfl⟩ := hf
   have hlt := (Array.getElem?_eq_some_iff.1 hfd).1
   have hdr : fs.toList.drop i = fd :: fs.toList.drop (i + 1) := by
    rw [List.drop_eq_getElem_cons (by simpa using hlt)]
    congr 1
    have := (Array.getElem?_eq_some_iff.1 hfd).2
    simpa using this
   rw [hdr]
   obtain ⟨p, c, q, rfl, hp, hc, _⟩ := l h cs x hx
   obtain ⟨p', c', q', rfl, hp', hc', _⟩ := l h ds y hy
   have h1 := jC0 t (p := p) (r := q) hc w
   have h2 := jC0 t (p := p') (r := q') hc' w
   rw [hp] at h1; rw [hp'] at h2
   have h3 := e h _ _ _ _ w ⟨c, hc, rfl⟩ ⟨c', hc', rfl⟩
   simp only [Op.eqFields, if_pos hm, Sem.run_bind, h1, h2, Result.andThen_ok, h3]
   cases g (get x) (get y) with
   | true => simpa using hk
   | false => simp
  ·cases hf
 ·cases hf
theorem qJv.struct {T : TypeId} {d : Nat} {r : Rep α} {f : α → α → Bool} (hag : r.agg = true) (ht : P.underlying T = some (.struct (P.fieldsOf T))) (hp : P.stoodInHeld T = false) (k : jLj P T d r 0 f) : qJv P (d + 1) T r f := by
 intro h v u x y w ⟨cs, hx, hv⟩ ⟨ds, hy, hu⟩
 rw [hv, hu, hag]
 have := k h cs ds x y w hx hy
 rw [List.drop_zero] at this
 show (Op.equalIn (d + 1 + 1) T (.agg cs.toArray) (.agg ds.toArray)).run P w = _
 rw [run_equalIn_agg w (d + 1) T _ _ ht hp, this]
theorem qVf {T T' : TypeId} {r : Rep α} {f : α → α → Bool} {x y : Operand} {a b : α} (e : qJv P 9999 T r f) (hag : r.agg = true) (hg : P.eqGuardType P.depth T = false) (ho : o.op = .binOp .neq T x y T') (hx : jQb N x (fV r a)) (hy : jQb N y (fV r b)) : jXf P o N [] (fV Rep.bool (!(f a b))) [] :=
 jXf.ofRun fun h ac w _ n => by
  obtain ⟨cs, h1, hv⟩ := hx h ac n
  obtain ⟨ds, h2, hu⟩ := hy h ac n
  have h3 := e h _ _ _ _ w ⟨cs, h1, rfl⟩ ⟨ds, h2, rfl⟩
  rw [hag] at hv hu h3
  refine ⟨.bool (!(f a b)), ?_, jZx.2 rfl⟩
  simp only [execOp, ho, hv, hu, pack, cond_true, run_eqGuard_agg w .neq T x y _ _ hg, run_neq_struct, Sem.run_bind, Result.andThen_ok, Sem.run_pure] at h3 ⊢
  rw [show (10000 : Nat) = 9999 + 1 from rfl, h3]; rfl
end Go.KB
