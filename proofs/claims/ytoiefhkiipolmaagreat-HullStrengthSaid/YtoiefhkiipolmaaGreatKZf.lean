/- Raw cells, variables that hold maps, variables that are captured or that go to keys that are no slots. Functions as numbers, slices of which nil is known, regions in parts, objects that are handed back. Variables of which several fields are rows or maps that are owned. clear of the end of a row that is owned. Struct values of which several fields are rows that are owned: variables, arguments, results. maps.Clone: a copy of a map that is owned. No condition. -/
import Derived.Test.YtoiefhkiipolmaaGreatKZe
import Derived.Lib.LazyBuf
namespace Go.KB
variable {P : Program} {o : Oper} {N : List (Nat × jJl)} {α β : Type}
def Rep.rawZ (z : Value) (hz : z.oneCell' = true) : Rep Value where
 sz := 1
 agg := false
 rel := fun _ cs v => cs = [v] ∧ v.oneCell' = true
 zero := z
 zc := [z]
 one := fun _ => rfl
 len := fun e => by rw [e.1]; rfl
 flat := fun e c hc => by rw [e.1] at hc; simp at hc; rw [hc]; exact e.2
 mono := fun _ e => e
 zrel := fun _ => ⟨rfl, hz⟩
abbrev Rep.rawM : Rep Value := Rep.rawZ (.map none) rfl
theorem qHj {z : Value} {hz : z.oneCell' = true} {h : H} {v x : Value} : (Rep.rawZ z hz).val h v x → v = x := fun ⟨_, e, e'⟩ => by rw [e', e.1]; rfl
theorem jN5 {T : TypeId} {z : Value} {hz : z.oneCell' = true} {sv : Value} {x : Operand} (t : jYd P T (Rep.rawZ z hz)) (ho : o.op = .load T x) (hx : jQr N x (jJs (Rep.rawZ z hz) sv)) : jX7 P o N [] (fIs sv) [] :=
 jX7.out (f := fV (Rep.rawZ z hz) sv) (f' := fIs sv) rfl (fun _ _ _ hp => qHj (z := z) (hz := hz) hp) (jXg t ho hx)
def qV7 (T : TypeId) (f : α → Value) (rv : Rep β) (l : List (α × β)) : jVn := fun v e => ∃ b bm, v = .pointer (some ⟨b, 0, none⟩) ∧ b ≠ bm ∧ e = JEnt (jGs b T Rep.rawM (.map (some bm))) (jK0 bm f rv l)
theorem qUm {T : TypeId} {d : Nat} (t : jYd P T Rep.rawM) (hd : o.dst = some d) (ho : o.op = .alloc T) : jX7 P o N [] jJl.triv [(d, some (jJg T Rep.rawM (.map none)))] := jJ0 t hd ho
theorem qKg {T T' : TypeId} {f : α → Value} {rv : Rep β} {s m : Nat} {x v : Operand} {y : Value} {l : List (α × β)} (t : jYd P T Rep.rawM) (hsm : Nat.beq s m = false) (hd : o.dst = none) (ho : o.op = .store T (.tmp s) v) (hv : jQr N v (fCp m)) :
  jX7 P o N [(s, jJg T' Rep.rawM y), (m, jGj f rv l)] jJl.triv [(s, some (qV7 T' f rv l)), (m, none)] := by
 intro κ B F L h a w hst hn hk _ next Q hnext _
 obtain ⟨⟨e, hL, b, hxv, rfl⟩, ⟨e2, hL2, bm, hmv, rfl⟩, _⟩ := hk
 have hL : L s = some (jGs b T' Rep.rawM y) := hL
 have hL2 : L m = some (jK0 bm f rv l) := hL2
 have hmv' : a.eval v = .map (some bm) := (hv h a hn : a.eval v = a.gt m).trans hmv
 have hxv' : a.eval (.tmp s) = .pointer (some ⟨b, 0, none⟩) := hxv
 have hne : s ≠ m := fun x => by rw [jYp.2 x] at hsm; cases hsm
 obtain ⟨cs, hb, hr⟩ := jR0 hst hL
 have hc' : Rep.rawM.rel h [.map (some bm)] (.map (some bm)) := ⟨rfl, rfl⟩
 have hrun := jWs (p := []) (c := cs) (q := []) t hc' (by simpa using hb) (Rep.rawM.len hr)
 have hrun : (Instr.storeAt T (.pointer (some ⟨b, 0, none⟩)) (.map (some bm))).run P w = .ok () (w.setRow b #[.map (some bm)]) := hrun
 unfold Oper.wpK
 have : (execOp a.eval o).run P w = .ok .skip (w.setRow b #[.map (some bm)]) := by
  simp only [execOp, ho, hxv', hmv', Sem.run_bind, hrun, Result.andThen_ok, Sem.run_pure]
 rw [this]
 have hst1 := hst.put hL hb hc'
 have hL2' : set1 L s (jGs b T' Rep.rawM (.map (some bm))) m = some (jK0 bm f rv l) := by simp [set1, Ne.symm hne, hL2]
 have hdj := hst.disj (k := Sum.inl s) (k' := Sum.inl m) hL hL2 (fun x => hne (Sum.inl.inj x)) (b, 0) (by simp [jGs]) (bm, 0) (by simp [jK0])
 have hj := hst1.jMm (e := JEnt (jGs b T' Rep.rawM (.map (some bm))) (jK0 bm f rv l)) jKp hL2' (fun c hc => List.mem_append.1 hc) ⟨(hst1.own (k := Sum.inl s) jKp).2, (hst1.own (k := Sum.inl m) hL2').2⟩
 have hL' : jMm (set1 L s (jGs b T' Rep.rawM (.map (some bm)))) s m (JEnt (jGs b T' Rep.rawM (.map (some bm))) (jK0 bm f rv l)) = jMm L s m (JEnt (jGs b T' Rep.rawM (.map (some bm))) (jK0 bm f rv l)) := by
  funext k; unfold jMm set1
  by_cases h1 : k = m
  ·rw [if_pos h1, if_pos h1]
  ·rw [if_neg h1, if_neg h1]
   by_cases h2 : k = s
   ·rw [if_pos h2, if_pos h2]
   ·rw [if_neg h2, if_neg h2, if_neg h2]
 rw [hL'] at hj
 refine hnext undef h _ _ (Hle.refl h) trivial hj ?_
 rw [hd]
 exact jCu hne ⟨b, bm, hxv, hdj, rfl⟩
section
variable {κ : Type} {B : Base} {h0 : H} {Γ : Ctx} {Λ : Own} {F : κ → Option Ent} {n : Nat} {a : Act} {w : World}
theorem St.freezeBox {h : H} {L : Nat → Option Ent} (hst : St B h (Sum.elim L F) w) (s : Nat) {b : Nat} {T : TypeId} {r : Rep α} {x : α} (hL : L s = some (jGs b T r x)) :
  ∃ h', Hle h h' ∧ St B h' (Sum.elim (fun k => if k = s then none else L k) F) w ∧ jL2 r h' b 0 x := by
 obtain ⟨cs, hb, hr⟩ := jR0 hst hL
 obtain ⟨hl2, hst2⟩ := hst.freeze (Sum.inl s) (e := jGs b T r x) hL (b := b) (lo := 0) (by simp [jGs]) hb cs.length (by simp) (L' := Sum.elim (fun k => if k = s then none else L k) F) (by
  intro k' e' hne he
  cases k' with
  | inr k => exact he
  | inl k =>
   have : k ≠ s := fun x => hne (by rw [x])
   simpa [this] using he) (fun e' he => by simp at he)
 have htk : cs.toArray.toList.take cs.length = cs := by simp
 rw [htk] at hl2 hst2
 refine ⟨_, hl2, hst2, cs, r.mono hl2 hr, fun j v hj => ?_⟩
 have hjl := (List.getElem?_eq_some_iff.1 hj).1
 rw [Nat.zero_add, jD5 hjl, ← hj, List.getElem?_eq_getElem hjl]
theorem At.freezeBox {T : TypeId} {r : Rep α} {x : α} (s : Nat) (hAt : At B h0 Γ Λ F n a w) (hs : Λ s = some (jJg T r x)) :
  At B h0 (fun k => bif Nat.beq s k then jJs r x else Γ k) (fun k => bif Nat.beq s k then none else Λ k) F n a w := by
 obtain ⟨h, L, hle, hst, hOw, hsat, hsz, hdf⟩ := hAt
 obtain ⟨e, hL, b, hv, rfl⟩ := hOw s _ hs
 obtain ⟨h', hl, hst', hr⟩ := hst.freezeBox s hL
 refine ⟨h', _, hle.trans hl, hst', ?_, ?_, hsz, hdf⟩
 ·intro k q hq
  cases hk : Nat.beq s k with
  | true => simp only [hk, cond_true] at hq; cases hq
  | false =>
   simp only [hk, cond_false] at hq
   have : k ≠ s := fun x => by rw [jYp.2 x.symm] at hk; cases hk
   simpa [this] using hOw k q hq
 ·intro k
  cases hk : Nat.beq s k with
  | true =>
   simp only [hk, cond_true]
   rw [jYp] at hk; subst hk
   exact ⟨b, 0, hv, hr⟩
  | false => simp only [hk, cond_false]; exact (Γ k).mono hl (hsat k)
theorem At.splitMapBox {T : TypeId} {f : α → Value} {rv : Rep β} {l : List (α × β)} (s g : Nat) (hsg : Nat.beq s g = false) (hAt : At B h0 Γ Λ F n a w) (hs : Λ s = some (qV7 T f rv l)) :
  ∃ sv, At B h0 (fun k => bif Nat.beq s k then jJs Rep.rawM sv else Γ k) (fun k => bif Nat.beq g k then some (atV (jGj f rv l) sv) else bif Nat.beq s k then none else Λ k) F n a w := by
 obtain ⟨h, L, hle, hst, hOw, hsat, hsz, hdf⟩ := hAt
 obtain ⟨e, hL, b, bm, hv, hbm, rfl⟩ := hOw s _ hs
 have hne : s ≠ g := fun x => by rw [jYp.2 x] at hsg; cases hsg
 obtain ⟨_, k1, k2⟩ := hst.own (k := Sum.inl s) hL
 have hst1 := hst.split2 (d := g) (e1 := jGs b T Rep.rawM (.map (some bm))) (e2 := jK0 bm f rv l) hL hne (fun c hc => List.mem_append_left _ hc) (fun c hc => List.mem_append_right _ hc) (by
  intro c hc c' hc'
  simp only [jGs, jK0, List.mem_singleton] at hc hc'
  subst hc; subst hc'; exact hbm) k1 k2
 obtain ⟨h', hl, hst', hr⟩ := hst1.freezeBox s (T := T) (r := Rep.rawM) (x := .map (some bm)) (b := b) (by simp [set1, hne])
 refine ⟨.map (some bm), h', _, hle.trans hl, hst', ?_, ?_, hsz, hdf⟩
 ·intro k q hq
  cases hk : Nat.beq g k with
  | true => simp only [hk, cond_true] at hq; cases hq; rw [jYp] at hk; subst hk; exact ⟨_, by simp [set1, Ne.symm hne], bm, rfl, rfl⟩
  | false =>
   simp only [hk, cond_false] at hq
   cases hk2 : Nat.beq s k with
   | true => simp only [hk2, cond_true] at hq; cases hq
   | false =>
    simp only [hk2, cond_false] at hq
    have n1 : k ≠ g := fun x => by rw [jYp.2 x.symm] at hk; cases hk
    have n2 : k ≠ s := fun x => by rw [jYp.2 x.symm] at hk2; cases hk2
    obtain ⟨e', h1, h2⟩ := hOw k q hq
    exact ⟨e', by simp [set1, n1, n2, h1], h2⟩
 ·intro k
  cases hk : Nat.beq s k with
  | true =>
   simp only [hk, cond_true]
   rw [jYp] at hk; subst hk
   exact ⟨b, 0, hv, hr⟩
  | false => simp only [hk, cond_false]; exact (Γ k).mono hl (hsat k)
end
end Go.KB
namespace Go.KB
variable {P : Program} {o : Oper} {N : List (Nat × jJl)} {α β : Type}
def qHp : List (Nat × jVn) → List Po → List Po → Prop
 | (_, q0) :: r, p :: ps, p' :: ps' => (p' = p ∨ (p = .keep ∧ p' = .to q0)) ∧ qHp r ps ps'
 | [], [], [] => True
 | _, _, _ => False
theorem qHp.ok {E : Nat → Option Ent} {g : Nat → Value} : ∀ {pre : List (Nat × jVn)} {ps ps' : List Po}, qHp pre ps ps' → jCt pre ps E g → jCt pre ps' E g := by
 intro pre
 induction pre with
 | nil => intro ps ps' h _; cases ps <;> cases ps' <;> first | trivial | exact h.elim
 | cons x r ih =>
  obtain ⟨k, q0⟩ := x
  intro ps ps' h hp
  cases ps with
  | nil => exact h.elim
  | cons p ps => cases ps' with
   | nil => exact h.elim
   | cons p' ps' =>
    obtain ⟨h1, h2⟩ := h
    refine ⟨?_, ih h2 hp.2⟩
    rcases h1 with rfl | ⟨rfl, rfl⟩
    ·exact hp.1
    ·exact hp.1
theorem qZq.post {f : FuncId} {args : List jJl} {pre : List (Nat × jVn)} {ps ps' : List Po} {own : Option jVn} {res : jJl} (h : qZq P f args pre ps own res) (hw : qHp pre ps ps') : qZq P f args pre ps' own res := by
 intro κ B L h0 w vs E hst hl hpre hargs
 exact (h κ B L h0 w vs E hst hl hpre hargs).mono fun e w' ⟨u, h', E', a, b, c, d, x, y⟩ => ⟨u, h', E', a, b, c, hw.ok d, x, y⟩
section
variable {ρ : Option Nat} {κ : Type} {B : Base} {h0 : H} {Γ : Ctx} {Λ : Own} {F : κ → Option Ent} {n : Nat} {ops : Array Oper} {a : Act} {w : World} {Q : Exit → Act → World → Prop}
end
section
variable {κ : Type} {B : Base} {h0 : H} {Γ : Ctx} {Λ : Own} {F : κ → Option Ent} {n : Nat} {a : Act} {w : World} {vM : Nat → Value} {pre : List (Nat × jVn)} {post : List Po}
end
theorem qQd {f : FuncId} {args C : List jJl} {pre : List (Nat × jVn)} {post : List Po} {res : jJl} {xs : List Operand} {gs : List Nat} {K : List (Nat × jVn)} {U : Upd}
  (hc : qZq P f (args ++ C) pre post none res) (hE : qJ1 P N o xs f C) (hd : jKq (res :: args) = true) (hchk : (qZ5 pre gs && !(match o.dst with | some d => has gs d | none => false)) = true)
  (hargs : jHp N args xs) (hkey : jFp N xs pre post gs) (hK : zipK pre gs = K) (hU : qXe gs post ++ qGb none o.dst = U) : jX7 P o N K jJl.triv U :=
 jX7.out (f := res) (by
  have := jVx hd res List.mem_cons_self
  rw [this]; rfl) (fun _ _ _ _ => trivial) (qGg hc hE hd hchk hargs hkey hK hU)
def qH4 {A R : Type} (v : A × Option Nat) (f : A → Option R) (g : A → Option R) : Option R := match v with
 | (x, none) => f x
 | (x, some k) => bif decide (0 = k) then g x else none
end Go.KB
namespace Go.KB
variable {P : Program} {o : Oper} {N : List (Nat × jJl)} {α β ρ : Type}
section
variable {κ : Type} {B : Base} {h : H} {L : Nat → Option Ent} {F : κ → Option Ent} {w : World}
end
section
variable {κ : Type} {B : Base} {h0 : H} {Γ : Ctx} {Λ : Own} {F : κ → Option Ent} {n : Nat} {a : Act} {w : World}
end
end Go.KB
namespace Go.KB
variable {P : Program} {o : Oper} {N : List (Nat × jJl)} {α β : Type}
end Go.KB
namespace Go.KB
variable {P : Program} {o : Oper} {N : List (Nat × jJl)} {α β ρ : Type}
section
variable {κ : Type} {B : Base} {h0 : H} {Γ : Ctx} {Λ : Own} {F : κ → Option Ent} {n : Nat} {a : Act} {w : World}
end
theorem qZ3 {T E : TypeId} {r : Rep β} {n : Nat} {x : Operand} {xs : List β} (hT : P.underlying T = some (.array n E)) (t : jYd P E r) (ho : o.op = .slice T x none none none) (hx : jQr N x (jJs (Rep.arr r n) xs)) : jX7 P o N [] (fV (Rep.slice r) xs) [] :=
 jX7.ofRun fun h a w _ q => by
  obtain ⟨b, off, hv, cs, ⟨hlen, hr⟩, hc⟩ := hx h a q
  refine ⟨.slice (some ⟨b, off, none⟩) n n, ?_, jZa.2 (.inr ⟨b, off, n, by rw [hlen], by omega, hr.refs hc⟩)⟩
  simp only [execOp, ho, hv, Option.map_none]
  simp [Instr.sliceAt, Instr.sureAddr, run_underlying hT, Instr.sliceBounds, t.size]
  intro _; simp [Addr.add]
theorem qBr {L : Nat → Option Ent} {d : Nat} {e : Ent} {a : Act} : jS8 L (set1 L d e) (full [] (some d)) a := by
 intro k
 cases h : Nat.beq d k with
 | true =>
  have : lkU (full [] (some d)) k = some none := by simp [full, lkU, h]
  rw [this]; trivial
 | false =>
  have : lkU (full [] (some d)) k = none := by simp [full, lkU, h]
  have hk : k ≠ d := fun e => by rw [e, Nat.beq_refl] at h; cases h
  rw [this]; simp [set1, hk]
theorem qGc {T E : TypeId} {r : Rep β} {m c : Int} {k k' : IntKind} {x y : Operand} {xs : List β} {d : Nat} (hq : mk r.zero m c = some xs) (el : jTk P E r) (t : jYd P E r) (hT : P.underlying T = some (.slice E)) (hd : o.dst = some d) (ho : o.op = .makeSlice T x y)
  (hx : jQr N x (fV (Rep.int k) m)) (hy : jQr N y (fV (Rep.int k') c)) : jX7 P o N [] (fV (Rep.slice r) xs) [] := by
 obtain ⟨h0, h1, h2, rfl⟩ := qZk hq
 intro κ B F L h a w hst hn _ hdn next Q hnext _
 unfold Oper.wpK
 have hrun := run_makeSlice (k := k) (k' := k') w el t hT h0 h1 h2
 have : (execOp a.eval o).run P w = .ok (.value (.slice (some ⟨w.heap.size, 0, none⟩) m.toNat c.toNat)) (w.alloc (.cells (List.replicate c.toNat r.zc).flatten.toArray E)) := by
  simp only [execOp, ho, jXu.1 (hx h a hn), jXu.1 (hy h a hn), Sem.run_bind, hrun, Result.andThen_ok, Sem.run_pure]
 rw [this]
 have hmc : m.toNat ≤ c.toNat := by omega
 obtain ⟨h', hle, hst', hsl⟩ := hst.newRow (rest := (List.replicate (c.toNat - m.toNat) r.zc).flatten) E d c.toNat (jD6.zeros r h m.toNat) (by rw [← jFf r _ _ hmc, qJ3]) (by rw [List.length_replicate]; exact hmc)
 rw [← jFf r _ _ hmc] at hst'
 rw [List.length_replicate] at hst' hsl
 refine hnext _ h' _ _ hle (jZa.2 hsl) hst' ?_
 rw [hd]
 exact qBr
end Go.KB
namespace Go.KB
variable {P : Program} {α β : Type}
section
variable {ρ : Option Nat} {κ : Type} {B : Base} {h0 : H} {Γ : Ctx} {Λ : Own} {F : κ → Option Ent} {n : Nat} {a : Act} {w : World} {vM : Nat → Value} {pre : List (Nat × jVn)} {post : List Po}
end
end Go.KB
