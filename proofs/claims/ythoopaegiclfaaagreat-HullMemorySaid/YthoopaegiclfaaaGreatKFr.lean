/- Rows that are new: they are written, and nothing else changes. No condition. -/
import Derived.Test.YthoopaegiclfaaaGreatKZf
namespace Go.KB
set_option linter.unusedVariables false
variable {P : Program} {o : Oper} {N : List (Nat × jJr)} {α β : Type}
def Rep.fresh (r : Rep α) : Rep α := { r with fr := true }
theorem Lens.fresh {r : Rep α} {s : Rep β} {off : Nat} {get : α → β} {set : α → β → α} (l : Lens r s off get set) : Lens r.fresh s off get set := l
theorem jU0.fresh (r : Rep α) (h : H) : ∀ (xs : List α) (cs : List Value), jU0 r.fresh h cs xs = jU0 r h cs xs := by
  intro xs
  induction xs with
  | nil => intro cs; rfl
  | cons x xs ih =>
    intro cs
    show (∃ c d, cs = c ++ d ∧ r.rel h c x ∧ jU0 r.fresh h d xs) = (∃ c d, cs = c ++ d ∧ r.rel h c x ∧ jU0 r h d xs)
    simp only [ih]
/- what is known at a fixed memory -/
def Rep.atH (r : Rep α) (hB : H) : Rep α := { r with rel := fun _ cs x => r.rel hB cs x, len := fun k => r.len k, flat := fun k => r.flat k, mono := fun _ k => k, zrel := fun _ => r.zrel hB }
theorem Lens.atH {r : Rep α} {s : Rep β} {off : Nat} {get : α → β} {set : α → β → α} (l : Lens r s off get set) (hB : H) : Lens (r.atH hB) (s.atH hB) off get set := by
  intro h cs x hr
  obtain ⟨p, c, q, e, hp, hc, k⟩ := l hB cs x hr
  exact ⟨p, c, q, e, hp, hc, fun h' c' y _ hy => k hB c' y (Hle.refl _) hy⟩
theorem jZf.atH {T : TypeId} {r : Rep α} (t : jZf P T r) (hB : H) : jZf P T (r.atH hB) := ⟨t.size, t.agg, t.zero⟩
/- the cells of a part of memory; numbers in them may be others -/
def simV (v v' : Value) : Prop := v' = v ∨ isI v ∧ isI v'
theorem simV.notI {v v' : Value} (h : simV v v') (hn : ¬ isI v) : v' = v := h.elim id (fun x => absurd x.1 hn)
def jSe (hB : H) (bs : List Nat) : Ent where
  claims := bs.map fun b => (b, 0)
  ok := fun _ m => ∀ b o v, hB.n ≤ b → hB b o = some v → b ∈ bs ∧ ∃ c t fr v', m b = some (.cells c t fr) ∧ c[o]? = some v' ∧ simV v v' ∧ (isI v → fr = (0, 0))
  mono := fun _ k => k
  frame := by
    intro h m m' hm k b o v hn hv
    obtain ⟨h1, c, t, fr, v', h2, h3⟩ := k b o v hn hv
    exact ⟨h1, c, t, fr, v', by rw [hm (b, 0) (List.mem_map.2 ⟨b, h1, rfl⟩)]; exact h2, h3⟩
def jW3 (hB : H) : jWm := fun _ e => ∃ bs, e = jSe hB bs
def jH6 (hB : H) (r : Rep α) (x : α) : jJr := ⟨none, fun _ _ v => ∃ b off, v = .pointer (some ⟨b, off, none⟩) ∧ hB.n ≤ b ∧ jU6 r hB b off x, fun _ k => k⟩
theorem jNu {T : TypeId} {E : TypeId} {r : Rep α} {hB : H} {x : Operand} {xs : List α} (hT : P.underlying T = some (.slice E)) (ho : o.op = .call { callee := .builtin .len, args := #[x], argTypes := #[T] })
    (hx : jJ7 N x (fV ((Rep.slice r).atH hB) xs)) : jXl P o N [] (fV (Rep.int .i64) (xs.length : Int)) [] :=
  jXl.ofRun fun h a w _ q => by
    refine ⟨.int .i64 (xs.length : Int), ?_, jQt.2 rfl⟩
    have : ∃ ad cap, a.eval x = .slice ad xs.length cap := by
      have k : jBm r hB (a.eval x) xs := jZm.1 (hx h a q)
      rcases k with ⟨⟨base, hv⟩, rfl⟩ | ⟨b, off, cap, hv, _⟩
      · exact ⟨_, _, hv⟩
      · exact ⟨_, _, hv⟩
    obtain ⟨ad, cap, hv⟩ := this
    simp [execOp, ho, resolve, invoke, builtin, Builtin.len_, hv, run_underlying hT, goInt]
theorem jUy {T E : TypeId} {r : Rep α} {hB : H} {k : IntKind} {x i : Operand} {xs : List α} {n : Int} {y : α} (t : jZf P E r) (hT : P.underlying T = some (.slice E)) (hq : idx xs n = some y) (ho : o.op = .indexAddr T x i)
    (hx : jJ7 N x (fV ((Rep.slice r).atH hB) xs)) (hi : jJ7 N i (fV (Rep.int k) n)) (hfr : r.fr = true := by rfl) : jXl P o N [] (jH6 hB r y) [] :=
  jXl.ofRun fun h a w _ q => by
    unfold idx at hq
    split at hq
    · cases hq
    · rename_i hn
      have hlt := (List.getElem?_eq_some_iff.1 hq).1
      have k : jBm r hB (a.eval x) xs := jZm.1 (hx h a q)
      rcases k with ⟨_, rfl⟩ | ⟨b, off, cap, hv, hcap, hc⟩
      · simp at hlt
      · refine ⟨.pointer (some ⟨b, off + n.toNat * r.sz, none⟩), ?_, b, _, rfl, hc.2 hfr, hc.1 _ _ hq⟩
        have : 0 ≤ n ∧ n < xs.length := by omega
        simp [execOp, ho, hv, jQt.1 (hi h a q), Instr.indexAt, asIntOf, run_underlying hT, this, t.size, Addr.add_mid]
theorem jGz {T : TypeId} {r : Rep α} {s : Rep β} {hB : H} {x : Operand} {y : α} {i off : Nat} {get : α → β} {set : α → β → α} (l : Lens r s off get set) (hf : jJ9 P T i off) (ho : o.op = .fieldAddr T x i) (hx : jJ7 N x (jH6 hB r y)) :
    jXl P o N [] (jH6 hB s (get y)) [] :=
  jXl.ofRun fun h a w _ q => by
    obtain ⟨b, off', hv, hn, k⟩ := hx h a q
    exact ⟨.pointer (some ⟨b, off' + off, none⟩), by simp [execOp, ho, hv, hf b off' w], b, _, rfl, hn, l.ref k⟩
theorem qQr {r : Rep α} {h : H} {v : Value} {xs : List α} (k : jBm r h v xs) : ¬ isI v := by
  rintro ⟨n, rfl⟩
  rcases k with ⟨⟨base, hv⟩, _⟩ | ⟨b, off, cap, hv, _⟩ <;> cases hv
theorem jLl {T : TypeId} {r : Rep α} {hB : H} {K : Nat} {x : Operand} {xs : List α} (t : jZf P T (Rep.slice r)) (ho : o.op = .load T x) (hx : jJ7 N x (jH6 hB (Rep.slice r) xs)) : jXl P o N [(K, jW3 hB)] (fV ((Rep.slice r).atH hB) xs) [] := by
  intro κ B F L h a w hst hn hk _ next Q hnext _
  obtain ⟨e, hL, bs, rfl⟩ := hk.1
  obtain ⟨b, off, hv, hnb, cs, ⟨v, rfl, hsl⟩, hc⟩ := hx h a hn
  obtain ⟨_, hok⟩ := hst.own (k := Sum.inl K) hL
  obtain ⟨_, c, t', fr, v', h2, h3, h4, _⟩ := hok b (off + 0) v hnb (hc 0 v rfl)
  have hvv := h4.notI (qQr hsl)
  subst hvv
  have hrun := jYg (P := P) (T := T) (b := b) (off := off) (w := w) (cs := [v']) t rfl (fun j u hj => by
    match j, hj with
    | 0, hj => cases hj; rw [jKu _ _ _ _ _ _ h2]; exact h3)
  unfold Oper.wpK
  have : (execOp a.eval o).run P w = .ok (.value v') w := by
    have hrun' : (Instr.loadAt T (.pointer (some ⟨b, off, none⟩))).run P w = .ok v' w := hrun
    simp [execOp, ho, hv, hrun']
  rw [this]
  exact hnext _ h w L (Hle.refl h) ⟨[v'], ⟨v', rfl, hsl⟩, rfl⟩ hst jVa
theorem jMa {T : TypeId} {hB : H} {K : Nat} {x v : Operand} {y z : Int} (t : jZf P T (Rep.int .i64)) (hd : o.dst = none) (ho : o.op = .store T x v) (hx : jJ7 N x (jH6 hB (Rep.int .i64) y)) (hv : jJ7 N v (fV (Rep.int .i64) z)) :
    jXl P o N [(K, jW3 hB)] jJr.triv [] := by
  intro κ B F L h a w hst hn hk _ next Q hnext _
  obtain ⟨e, hL, bs, rfl⟩ := hk.1
  obtain ⟨b, off, hxv, hnb, cs, hcs, hc⟩ := hx h a hn
  have hcs : cs = [.int .i64 y] := hcs
  subst hcs
  obtain ⟨hcl, hok⟩ := hst.own (k := Sum.inl K) hL
  have hcell := hc 0 _ rfl
  rw [Nat.add_zero] at hcell
  obtain ⟨hbs, c, t', fr, v', h2, h3, h4, h5⟩ := hok b off _ hnb hcell
  have h5 := h5 ⟨y, rfl⟩
  subst h5
  obtain ⟨cz, hcz, hvv⟩ := hv h a hn
  have hoff := (Array.getElem?_eq_some_iff.1 h3).1
  have hsplit : c = (c.toList.take off ++ [v'] ++ c.toList.drop (off + 1)).toArray := by
    apply Array.ext'
    have : c.toList[off]? = some v' := by rw [Array.getElem?_toList]; exact h3
    obtain ⟨hl, he⟩ := List.getElem?_eq_some_iff.1 this
    simp only [List.append_assoc, List.singleton_append]
    rw [← he, ← List.drop_eq_getElem_cons hl, List.take_append_drop]
  have hb : w.heap[b]? = some (.cells (c.toList.take off ++ [v'] ++ c.toList.drop (off + 1)).toArray t' (0, 0)) := by rw [← hsplit]; exact h2
  have hlen : (c.toList.take off).length = off := by rw [List.length_take, Array.length_toList]; omega
  have hrun := jZ4 (P := P) (T := T) t hcz hb rfl
  rw [hlen] at hrun
  have hcz' : cz = [.int .i64 z] := hcz
  subst hcz'
  unfold Oper.wpK
  have : (execOp a.eval o).run P w = .ok .skip (w.setRow b (c.toList.take off ++ [Value.int .i64 z] ++ c.toList.drop (off + 1)).toArray) := by
    simp only [execOp, ho, hxv, hvv, Sem.run_bind, hrun, Result.andThen_ok, Sem.run_pure]
  rw [this]
  have hmem := setRow_heap w b c (c.toList.take off ++ [Value.int .i64 z] ++ c.toList.drop (off + 1)).toArray t' (0, 0) h2
  refine hnext undef h _ L (Hle.refl h) trivial ?_ (by rw [hd]; exact jVa)
  refine hst.write (Sum.inl K) hL (b := b) (lo := 0) (List.mem_map.2 ⟨b, hbs, rfl⟩) hmem (fun i hi => setRow_other w b i _ hi) (by simp [World.setRow]) rfl rfl rfl ?_ (fun _ _ _ x => x) ?_
  · intro o' u hu
    rw [(hcl (b, 0) (List.mem_map.2 ⟨b, hbs, rfl⟩)).2.2 o' (Nat.zero_le _)] at hu; cases hu
  · intro e' he'
    have he' : L K = some e' := he'
    rw [hL] at he'; cases he'
    refine ⟨fun _ x => x, fun b2 o2 v2 hn2 hv2 => ?_⟩
    obtain ⟨k1, c2, t2, fr2, v2', k2, k3, k4⟩ := hok b2 o2 v2 hn2 hv2
    refine ⟨k1, ?_⟩
    by_cases hbb : b2 = b
    · subst hbb
      rw [k2] at h2; cases h2
      by_cases hoo : o2 = off
      · subst hoo
        have : v2 = .int .i64 y := by rw [hcell] at hv2; exact (Option.some.inj hv2).symm
        subst this
        refine ⟨_, _, _, .int .i64 z, hmem, ?_, .inr ⟨⟨_, rfl⟩, ⟨_, rfl⟩⟩, k4.2⟩
        simp only [List.getElem?_toArray, List.append_assoc]
        rw [List.getElem?_append_right (by omega), hlen, Nat.sub_self]; rfl
      · refine ⟨_, _, _, v2', hmem, ?_, k4⟩
        simp only [List.getElem?_toArray, List.append_assoc]
        by_cases hlt : o2 < off
        · rw [List.getElem?_append_left (by omega), List.getElem?_take, if_pos hlt, Array.getElem?_toList]; exact k3
        · rw [List.getElem?_append_right (by omega), hlen, List.getElem?_append_right (by simp; omega), List.getElem?_drop, Array.getElem?_toList]
          simp only [List.length_singleton]
          rw [show off + 1 + (o2 - off - 1) = o2 by omega]; exact k3
    · exact ⟨c2, t2, fr2, v2', (setRow_other w b b2 _ hbb).trans k2, k3, k4⟩
theorem jTj {T T' E : TypeId} {r r' : Rep α} {q : Rep β} {l1 l2 : List jQy} {s off sz : Nat} {x : Operand} {y : α} {get : α → List β} {set : α → List β → α} {y' : α} (l : Lens r (Rep.slice q) off get set) (t : jZf P T (Rep.slice q)) (hap : apartB off 1 (l1 ++ l2) = true) (hd : o.dst = none)
    (hX : ∀ h p q', p.length = off → r.rel h (p ++ [jK6] ++ q') (set y []) → r'.rel h (p ++ [jK6] ++ q') (set y [])) (W : Wr) (ho : o.op = .store T x (.const (.slice none 0 0))) (hx : qV9 N x W s off) (hy' : y' = set y []) : jXl P o N [(s, W.ap (jXv T' r y (l1 ++ l2)))] jJr.triv [(s, some (W.ap (jXv T' r' y' (l1 ++ ⟨off, E, sz⟩ :: l2))))] := by
  subst hy'
  intro κ B F L h a w hst hn hk _ next Q hnext _
  obtain ⟨b, hdv, hxv⟩ := hx h a hn
  obtain ⟨e, hL, hqW⟩ := hk.1
  obtain ⟨b', us, hv', hta, hbo, rfl⟩ := Wr.iff.1 hqW
  have hd' : W.v a s = .pointer (some ⟨b, 0, none⟩) := hdv
  rw [hd'] at hv'; cases hv'
  have hc' : (Rep.slice q).rel h [jK6] [] := ⟨_, rfl, .inl ⟨⟨none, rfl⟩, rfl⟩⟩
  obtain ⟨p, c, q', hp, hrun, hcl, hmem, hrel, hget, hst'⟩ := jLm l t hst hL hbo (List.Sublist.refl us) (fun u hu => by
    obtain ⟨t, ht, e⟩ := hta.offs u hu; rw [e]; exact jBw hap t ht) hc'
  unfold Oper.wpK
  have : (execOp a.eval o).run P w = .ok .skip (w.setRow b (p ++ [jK6] ++ q').toArray) := by
    have hrun' : (Instr.storeAt T (.pointer (some ⟨b, off, none⟩)) (a.eval (.const (.slice none 0 0)))).run P w = .ok () (w.setRow b (p ++ [jK6] ++ q').toArray) := hrun
    simp only [execOp, ho, hxv, Sem.run_bind, hrun', Result.andThen_ok, Sem.run_pure]
  rw [this]
  obtain ⟨us1, us2, rfl, h3, h4⟩ := hta.cut
  have hta' : jW1 (l1 ++ ⟨off, E, sz⟩ :: l2) (us1 ++ (off, jK6, jK1) :: us2) := jW1.app (l2 := ⟨off, E, sz⟩ :: l2) (us2 := (off, jK6, jK1) :: us2) ⟨⟨rfl, .inl ⟨none, 0, rfl, rfl⟩⟩, h4⟩ h3
  obtain ⟨_, hu2⟩ := jUv hst' jYw
  have hsw := hst'.swap (e' := jZy b T' r' (set y []) (us1 ++ (off, jK6, jK1) :: us2)) jYw (fun c hc => by
    refine ⟨c, ?_, rfl, Nat.le_refl _⟩
    simpa [jZy, qQ5, jK1] using hc) ⟨⟨_, hmem, hX _ _ _ hp hrel, fun u hu => by
      rcases List.mem_append.1 hu with hu | hu
      · exact hget u (List.mem_append_left _ hu)
      · rcases List.mem_cons.1 hu with rfl | hu
        · simp only []
          rw [List.append_assoc, List.getElem?_append_right (by omega), hp]; simp
        · exact hget u (List.mem_append_right _ hu)⟩, fun u hu => by
      rcases List.mem_append.1 hu with hu | hu
      · exact hu2 u (List.mem_append_left _ hu)
      · rcases List.mem_cons.1 hu with rfl | hu
        · trivial
        · exact hu2 u (List.mem_append_right _ hu)⟩
  rw [jFe] at hsw
  refine hnext undef h _ _ (Hle.refl h) trivial hsw ?_
  rw [hd]
  exact jZ7 (Wr.iff.2 ⟨b, _, hd', hta', hbo.nil, rfl⟩)
theorem At.rerep {κ : Type} {B : Base} {h0 : H} {Γ : Ctx} {Λ : Own} {F : κ → Option Ent} {n : Nat} {a : Act} {w : World} {T : TypeId} {r r' : Rep α} {x : α} {ts : List jQy} (hr0 : ∀ h cs, r.rel h cs x → r'.rel h cs x) (s : Nat) (hAt : At B h0 Γ Λ F n a w) (hs : Λ s = some (jXv T r x ts)) : At B h0 Γ (fun k => bif Nat.beq s k then some (jXv T r' x ts) else Λ k) F n a w := by
  obtain ⟨h, L, hle, hst, hOw, hsat, hsz, hdf⟩ := hAt
  obtain ⟨e, hL, b, us, hv, hta, hbo, rfl⟩ := hOw s _ hs
  obtain ⟨⟨cs, hb, hr, hu1⟩, hu2⟩ := jUv hst hL
  have hst' := hst.swap (e' := jZy b T r' x us) hL (fun c hc => ⟨c, hc, rfl, Nat.le_refl _⟩) ⟨⟨cs, hb, hr0 _ _ hr, hu1⟩, hu2⟩
  refine ⟨h, _, hle, hst', ?_, hsat, hsz, hdf⟩
  intro k q hq
  cases hk : Nat.beq s k with
  | true =>
    simp only [hk, cond_true] at hq
    cases hq
    rw [jKb] at hk; subst hk
    exact ⟨_, jYw, b, _, hv, hta, hbo, rfl⟩
  | false =>
    simp only [hk, cond_false] at hq
    obtain ⟨e, he, hqe⟩ := hOw k q hq
    have : k ≠ s := fun x => by rw [jKb.2 x.symm] at hk; cases hk
    exact ⟨e, by simp [set1, this, he], hqe⟩
/- a description that holds where another one does -/
def Rep.sub (r r' : Rep α) : Prop := r.agg = r'.agg ∧ ∀ h cs x, r.rel h cs x → r'.rel h cs x
theorem Rep.sub_val {r r' : Rep α} (k : r.sub r') {h : H} {v : Value} {x : α} : r.val h v x → r'.val h v x := fun ⟨cs, a, e⟩ => ⟨cs, k.2 h cs x a, by rw [← k.1]; exact e⟩
theorem jJ7.sub {r r' : Rep α} (k : r.sub r') {x : Operand} {y : α} (hx : jJ7 N x (fV r y)) : jJ7 N x (fV r' y) := fun h a n => r.sub_val k (hx h a n)
theorem Rep.sub_slice {r r' : Rep α} (k : r.sub r') (hz : r.sz = r'.sz) (hf : r'.fr = true → r.fr = true) : (Rep.slice r).sub (Rep.slice r') := by
  refine ⟨rfl, ?_⟩
  rintro h cs xs ⟨v, e, k1⟩
  refine ⟨v, e, ?_⟩
  rcases k1 with k1 | ⟨b, off, cap, e1, e2, k1, k2⟩
  · exact .inl k1
  · refine .inr ⟨b, off, cap, e1, e2, fun i x hx => ?_, fun hh => k2 (hf hh)⟩
    obtain ⟨cs, a, c⟩ := k1 i x hx
    exact ⟨cs, k.2 _ _ _ a, by rw [← hz]; exact c⟩
theorem Rep.sub_refl (r : Rep α) : r.sub r := ⟨rfl, fun _ _ _ k => k⟩
theorem Rep.sub_prod {r r' : Rep α} {s s' : Rep β} (h : r.sub r') (h' : s.sub s') : (r.prod s).sub (r'.prod s') := ⟨rfl, fun hh cs x ⟨a, b, e, k1, k2⟩ => ⟨a, b, e, h.2 _ _ _ k1, h'.2 _ _ _ k2⟩⟩
theorem Rep.sub_iso {r r' : Rep α} {f : β → α} {g : α → β} {fg : ∀ x, f (g x) = x} (h : r.sub r') : (r.iso f g fg).sub (r'.iso f g fg) := ⟨h.1, fun hh cs x k => h.2 _ _ _ k⟩
/- descriptions without a mark -/
def NoN (r : Rep α) : Prop := ∀ h k cs x, r.rel h cs x → r.rel ⟨h.f, k⟩ cs x
theorem NoN.ref {r : Rep α} (hr : NoN r) {h : H} {k b off : Nat} {x : α} : jU6 r h b off x → jU6 r ⟨h.f, k⟩ b off x := fun ⟨cs, a, c⟩ => ⟨cs, hr h k cs x a, c⟩
theorem NoN.slice {r : Rep α} (hr : NoN r) (hf : r.fr = false) : NoN (Rep.slice r) := by
  rintro h k cs xs ⟨v, e, k1⟩
  refine ⟨v, e, ?_⟩
  rcases k1 with k1 | ⟨b, off, cap, e1, e2, k1, k2⟩
  · exact .inl k1
  · exact .inr ⟨b, off, cap, e1, e2, fun i x hx => hr.ref (k1 i x hx), fun hh => by rw [hf] at hh; cases hh⟩
theorem NoN.prod {r : Rep α} {s : Rep β} (h : NoN r) (h' : NoN s) : NoN (r.prod s) := fun hh k cs x ⟨a, b, e, k1, k2⟩ => ⟨a, b, e, h _ _ _ _ k1, h' _ _ _ _ k2⟩
theorem NoN.iso {r : Rep α} {f : β → α} {g : α → β} {fg : ∀ x, f (g x) = x} (h : NoN r) : NoN (r.iso f g fg) := fun hh k cs x k1 => h _ _ _ _ k1
theorem NoN.int {k : IntKind} : NoN (Rep.int k) := fun _ _ _ _ k => k
theorem NoN.str : NoN Rep.str := fun _ _ _ _ k => k
theorem NoN.unit : NoN Rep.unit := fun _ _ _ _ k => k
/- what is known since the mark -/
def fC (hm : H) (r : Rep α) (x : α) : jJr := ⟨none, fun h _ v => ∃ b off, v = .pointer (some ⟨b, off, none⟩) ∧ jU6 r hm b off x ∧ jU6 r h b off x, fun hl ⟨b, off, e, k1, k2⟩ => ⟨b, off, e, k1, k2.mono hl⟩⟩
theorem opdC {hm : H} {r : Rep α} {x : α} {s : Nat} : jJ7 ((s, fC hm r x) :: N) (.tmp s) (jJt r x) := fun h a n => by
  obtain ⟨b, off, e, _, k⟩ := n.1
  exact ⟨b, off, e, k⟩
section
variable {κ : Type} {B : Base} {h0 : H} {F : κ → Option Ent} {n : Nat} {a : Act} {w : World} {fn : Func}
theorem jBa {s : Nat} {f : jJr} {l : List (Nat × jJr)} {h : H} (h1 : f.at h a s) (h2 : Sat (mkG l) h a) : Sat (mkG ((s, f) :: l)) h a := by
  intro k
  show ((lkF ((s, f) :: l)) k).at h a k
  unfold lkF
  cases hb : Nat.beq s k with
  | true => rw [jKb] at hb; subst hb; exact h1
  | false => exact h2 k
theorem sat_head {s : Nat} {f : jJr} {l : List (Nat × jJr)} {h : H} (x : Sat (mkG ((s, f) :: l)) h a) : f.at h a s := by
  have := x s
  show f.at h a s
  have e : mkG ((s, f) :: l) s = f := by show lkF _ s = f; unfold lkF; rw [jKb.2 rfl]; rfl
  rw [e] at this; exact this
theorem qXs {h : H} : Sat (mkG []) h a := fun _ => trivial
theorem qJ1 {r : Rep α} {x : α} {h : H} {s : Nat} (hr : NoN r) {k : Nat} (y : (jJt r x).at h a s) : (fC ⟨h.f, k⟩ r x).at ⟨h.f, k⟩ a s := by
  obtain ⟨b, off, e, y⟩ := y
  exact ⟨b, off, e, hr.ref y, hr.ref y⟩
/- a mark is set: what is new from here on lies behind it -/
theorem qW4 {c : Code} {g : List (Nat × jJr)} {g' : H → List (Nat × jJr)} {post : jJr} (hpost : ∀ h h' d v, post.p h d v → post.p h' d v) (hAt : AG B h0 g [] F n a w) (hg : ∀ h k, Sat (mkG g) h a → Sat (mkG (g' ⟨h.f, k⟩)) ⟨h.f, k⟩ a)
    (H : ∀ (B' : Base) (hm : H) (F' : Empty → Option Ent), (∀ b o v, hm b o = some v → b < hm.n) → hm.n = B'.n → AG B' hm (g' hm) [] F' n a w → c.wpK none P (jRq P fn B' hm F' post) a w) : c.wpK none P (jRq P fn B h0 F post) a w := by
  obtain ⟨h, L, hle, hst, hOw, hsat, hsz, hdf⟩ := hAt
  have hr := hst.right
  have hstm : St ⟨w.heap.size, w, B.df⟩ ⟨h.f, w.heap.size⟩ (fun _ : Empty => (none : Option Ent)) w := ⟨Nat.le_refl _, jF2.refl _ _, fun x => hst.ext x, fun {k} => k.elim, fun {k} => k.elim, Nat.le_refl _, fun {b o v} x _ y => absurd (World.block_lt_of_cell? w ⟨b, o, none⟩ (hst.ext y)) (Nat.not_lt.2 x)⟩
  have hAt' : AG ⟨w.heap.size, w, B.df⟩ ⟨h.f, w.heap.size⟩ (g' ⟨h.f, w.heap.size⟩) [] (fun _ : Empty => (none : Option Ent)) n a w := ⟨_, fun _ => none, Hle.refl _, St.sumNone hstm, fun s q hq => (by cases hq), hg _ _ hsat, hsz, hdf⟩
  refine wp_mono (H ⟨w.heap.size, w, B.df⟩ ⟨h.f, w.heap.size⟩ (fun _ : Empty => none) (fun b o v hv => World.block_lt_of_cell? w ⟨b, o, none⟩ (hst.ext hv)) rfl hAt') (fun e a' w' hp hB => ?_)
  refine (hp hB).mono ?_
  rintro e w' ⟨v, h', rfl, hl, hst', hpv⟩
  refine ⟨v, h, rfl, hle, ?_, hpost _ _ _ _ hpv⟩
  have hb := hst'.base
  refine ⟨Nat.le_trans hr.low hb.size, hr.base.trans ⟨hb.os, hb.tape, hb.output, hb.size, fun i hi => hb.block i (Nat.lt_of_lt_of_le hi hr.low), hb.drawn⟩, ?_, ?_, fun x y => hr.disj x y, hr.mark, ?_⟩
  · intro b o v hv
    rw [← hr.ext hv]
    exact World.cell?_of_block (hb.block b (hst.lt hv))
  · intro k e he
    obtain ⟨h1, h2⟩ := hr.own he
    refine ⟨fun c hc => ?_, e.frame (fun c hc => hb.block c.1 (h1 c hc).2.1) h2⟩
    obtain ⟨h3, h4, h5⟩ := h1 c hc
    exact ⟨h3, Nat.lt_of_lt_of_le h4 hb.size, h5⟩
  · intro b o v hn hi hv
    obtain ⟨c, t, e⟩ := hr.nf hn hi hv
    exact ⟨c, t, (hb.block b (hst.lt hv)).trans e⟩
theorem qVc {w : World} {b o : Nat} {v : Value} (h : w.cell? ⟨b, o, none⟩ = some v) : ∃ c t fr, w.heap[b]? = some (.cells c t fr) ∧ c[o]? = some v := by
  unfold World.cell? at h
  split at h
  · rename_i c t fr hb
    exact ⟨c, t, fr, hb, by simpa using h⟩
  · cases h
open Classical in
/- what is new is written from here on: numbers in it are not known any more -/
theorem At.blur {hm : H} {F' : Empty → Option Ent} {g : List (Nat × jJr)} {g' : H → List (Nat × jJr)} {α1 α2 : Type} {T1 T2 : TypeId} {r1 : Rep α1} {r2 : Rep α2} {x1 : α1} {x2 : α2} {s1 s2 K : Nat} (h12 : s1 ≠ s2) (h1K : s1 ≠ K) (h2K : s2 ≠ K)
    (hlt : ∀ b o v, hm b o = some v → b < hm.n) (hBn : hm.n = B.n) (hAt : AG B hm g [(s1, jJb T1 r1 x1), (s2, jJb T2 r2 x2)] F' n a w) (hg : ∀ hB, Hle hm hB → Sat (mkG g) hB a → Sat (mkG (g' hB)) hm a) :
    ∃ hB, AG B hm (g' hB) [(s1, jJb T1 (r1.atH hB) x1), (s2, jJb T2 (r2.atH hB) x2), (K, jW3 hB)] F' n a w := by
  obtain ⟨h, L, hle, hst, hOw, hsat, hsz, hdf⟩ := hAt
  have n12 : Nat.beq s1 s2 = false := by cases e : Nat.beq s1 s2 with | false => rfl | true => exact absurd (jKb.1 e) h12
  obtain ⟨e1, hL1, b1, hv1, rfl⟩ := hOw s1 (jJb T1 r1 x1) (by show lkO _ s1 = _; simp [lkO, jKb.2 rfl])
  obtain ⟨e2, hL2, b2, hv2, rfl⟩ := hOw s2 (jJb T2 r2 x2) (by show lkO _ s2 = _; simp [lkO, n12, jKb.2 rfl])
  obtain ⟨cl1, ⟨cs1, m1, rel1⟩⟩ := hst.own (k := Sum.inl s1) hL1
  obtain ⟨cl2, ⟨cs2, m2, rel2⟩⟩ := hst.own (k := Sum.inl s2) hL2
  have c1 := cl1 (b1, 0) (by simp [jY8])
  have c2 := cl2 (b2, 0) (by simp [jY8])
  have hb12 : b1 ≠ b2 := hst.disj (k := Sum.inl s1) (k' := Sum.inl s2) hL1 hL2 (fun e => h12 (Sum.inl.inj e)) (b1, 0) (by simp [jY8]) (b2, 0) (by simp [jY8])
  let bs : List Nat := (List.range w.heap.size).filter (fun b => decide (h.n ≤ b ∧ ∃ o v, h b o = some v))
  have hbs : ∀ b, b ∈ bs ↔ b < w.heap.size ∧ h.n ≤ b ∧ ∃ o v, h b o = some v := fun b => by simp [bs]
  have hmn : ∀ b o, h.n ≤ b → hm b o = none := fun b o hb => by
    cases hh : hm b o with
    | none => rfl
    | some v => have := hlt b o v hh; have := hle.n; omega
  have hno : ∀ b, (∀ o, 0 ≤ o → h b o = none) → ∀ o, hm b o = none := fun b hb o => by
    cases hh : hm b o with
    | none => rfl
    | some v => have := hle b o v hh; rw [hb o (Nat.zero_le _)] at this; cases this
  have hx : ∀ b, (∀ o, 0 ≤ o → h b o = none) → b ∉ bs := fun b hb hm' => by
    obtain ⟨_, _, o, v, hv⟩ := (hbs b).1 hm'
    rw [hb o (Nat.zero_le _)] at hv; cases hv
  let L2 : Nat → Option Ent := fun k => if k = s1 then some (jY8 b1 T1 (r1.atH h) x1) else if k = s2 then some (jY8 b2 T2 (r2.atH h) x2) else if k = K then some (jSe h bs) else none
  have q1 : L2 s1 = some (jY8 b1 T1 (r1.atH h) x1) := by simp [L2]
  have q2 : L2 s2 = some (jY8 b2 T2 (r2.atH h) x2) := by simp [L2, Ne.symm h12]
  have qK : L2 K = some (jSe h bs) := by simp [L2, Ne.symm h1K, Ne.symm h2K]
  have qc : ∀ k e, L2 k = some e → (k = s1 ∧ e = jY8 b1 T1 (r1.atH h) x1) ∨ (k = s2 ∧ e = jY8 b2 T2 (r2.atH h) x2) ∨ (k = K ∧ e = jSe h bs) := by
    intro k e he
    by_cases e1 : k = s1
    · subst e1; rw [q1] at he; cases he; exact .inl ⟨rfl, rfl⟩
    · by_cases e2 : k = s2
      · subst e2; rw [q2] at he; cases he; exact .inr (.inl ⟨rfl, rfl⟩)
      · by_cases e3 : k = K
        · subst e3; rw [qK] at he; cases he; exact .inr (.inr ⟨rfl, rfl⟩)
        · simp [L2, e1, e2, e3] at he
  have hcl : ∀ k e, L2 k = some e → ∀ c ∈ e.claims, (k = s1 ∧ c.1 = b1) ∨ (k = s2 ∧ c.1 = b2) ∨ (k = K ∧ c.1 ∈ bs) := by
    intro k e he c hc
    rcases qc k e he with ⟨rfl, rfl⟩ | ⟨rfl, rfl⟩ | ⟨rfl, rfl⟩
    · simp [jY8] at hc; exact .inl ⟨rfl, by rw [hc]⟩
    · simp [jY8] at hc; exact .inr (.inl ⟨rfl, by rw [hc]⟩)
    · obtain ⟨b, hb, rfl⟩ := List.mem_map.1 hc; exact .inr (.inr ⟨rfl, hb⟩)
  have hst2 : St B hm (Sum.elim L2 F') w := by
    refine ⟨hst.low, hst.base, fun x => hst.ext (hle _ _ _ x), ?_, ?_, by rw [← hle.n]; exact hst.mark, fun {b o v} x _ y => ?_⟩
    · intro k e he
      cases k with
      | inr k => exact k.elim
      | inl k =>
        rcases qc k e he with ⟨rfl, rfl⟩ | ⟨rfl, rfl⟩ | ⟨rfl, rfl⟩
        · refine ⟨fun c hc => ?_, cs1, m1, rel1⟩
          simp [jY8] at hc; subst hc
          exact ⟨c1.1, c1.2.1, fun o _ => hno b1 c1.2.2 o⟩
        · refine ⟨fun c hc => ?_, cs2, m2, rel2⟩
          simp [jY8] at hc; subst hc
          exact ⟨c2.1, c2.2.1, fun o _ => hno b2 c2.2.2 o⟩
        · refine ⟨fun c hc => ?_, fun b o v hb hv => ?_⟩
          · obtain ⟨b, hb, rfl⟩ := List.mem_map.1 hc
            obtain ⟨y1, y2, _⟩ := (hbs b).1 hb
            exact ⟨by have := hle.n; show B.n ≤ b; omega, y1, fun o _ => hmn b o y2⟩
          · have hce := hst.ext hv
            obtain ⟨c, t, fr, y1, y2⟩ := qVc hce
            refine ⟨(hbs b).2 ⟨hst.lt hv, hb, o, v, hv⟩, c, t, fr, v, y1, y2, .inl rfl, fun hi => ?_⟩
            obtain ⟨c', t', y3⟩ := hst.nf hb hi hv
            rw [y1] at y3; cases y3; rfl
    · intro k k' e e' he he' hne c hc c' hc' heq
      cases k with
      | inr k => exact k.elim
      | inl k =>
        cases k' with
        | inr k' => exact k'.elim
        | inl k' =>
          have x1 := hcl k e he c hc
          have x2 := hcl k' e' he' c' hc'
          have nb1 := hx b1 c1.2.2
          have nb2 := hx b2 c2.2.2
          have hkk : k ≠ k' := fun e => hne (by rw [e])
          rcases x1 with ⟨rfl, y1⟩ | ⟨rfl, y1⟩ | ⟨rfl, y1⟩ <;> rcases x2 with ⟨rfl, y2⟩ | ⟨rfl, y2⟩ | ⟨rfl, y2⟩
          · exact hkk rfl
          · exact hb12 (by rw [← y1, ← y2]; exact heq)
          · rw [← heq, y1] at y2; exact nb1 y2
          · exact hb12 (by rw [← y1, ← y2]; exact heq.symm)
          · exact hkk rfl
          · rw [← heq, y1] at y2; exact nb2 y2
          · rw [heq, y2] at y1; exact nb1 y1
          · rw [heq, y2] at y1; exact nb2 y1
          · exact hkk rfl
    · have := hlt b o v y; omega
  refine ⟨h, hm, L2, Hle.refl _, hst2, ?_, hg h hle hsat, hsz, hdf⟩
  intro s q hq
  have hq : lkO [(s1, jJb T1 (r1.atH h) x1), (s2, jJb T2 (r2.atH h) x2), (K, jW3 h)] s = some q := hq
  simp only [lkO] at hq
  cases e1 : Nat.beq s1 s with
  | true => rw [e1, cond_true] at hq; cases hq; rw [jKb] at e1; subst e1; exact ⟨_, q1, b1, hv1, rfl⟩
  | false =>
    rw [e1, cond_false] at hq
    cases e2 : Nat.beq s2 s with
    | true => rw [e2, cond_true] at hq; cases hq; rw [jKb] at e2; subst e2; exact ⟨_, q2, b2, hv2, rfl⟩
    | false =>
      rw [e2, cond_false] at hq
      cases e3 : Nat.beq K s with
      | true => rw [e3, cond_true] at hq; cases hq; rw [jKb] at e3; subst e3; exact ⟨_, qK, bs, rfl⟩
      | false => rw [e3, cond_false] at hq; cases hq
end
end Go.KB
