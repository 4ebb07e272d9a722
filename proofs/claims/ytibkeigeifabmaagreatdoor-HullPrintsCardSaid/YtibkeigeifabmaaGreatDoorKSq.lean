/- An iterator that holds its own text: what strings.SplitAfterSeq hands back. No condition. -/
import Derived.Test.YtibkeigeifabmaaGreatDoorKLc
namespace Go.KB
variable {P : Program} {o : Oper} {N : List (Nat × jJm)}
def qV5 (b : Nat) (c0 c2 : Value) (T : TypeId) (s sep : Str) (n : Int) : Ent where
  claims := [(b, 0)]
  ok := fun h m => (∃ cs, m b = some (.cells cs.toArray T (0, 0)) ∧ Rep.str.rel h cs s) ∧ (jJ6 Rep.str sep).p h undef c0 ∧ (jJ6 (Rep.int .i64) n).p h undef c2
  mono := by
    intro h h' m hl ⟨⟨cs, e, k⟩, k0, k2⟩
    exact ⟨⟨cs, e, Rep.str.mono hl k⟩, (jJ6 _ _).mono hl k0, (jJ6 _ _).mono hl k2⟩
  frame := by
    intro h m m' hm ⟨⟨cs, e, k⟩, k0, k2⟩
    exact ⟨⟨cs, by rw [hm (b, 0) (by simp)]; exact e, k⟩, k0, k2⟩
def qVz (f : FuncId) (T : TypeId) (s sep : Str) (n : Int) : jZp := fun v e => ∃ b c0 c2, v = .func (.func f) #[] #[c0, .pointer (some ⟨b, 0, none⟩), c2] ∧ e = qV5 b c0 c2 T s sep n
theorem qK9 {f : FuncId} {T : TypeId} {s sep : Str} {n : Int} {t0 t1 t2 d : Nat} (hsd : Nat.beq t1 d = false) (hd : o.dst = some d) (ho : o.op = .makeFunc (.func f) #[] #[.tmp t0, .tmp t1, .tmp t2])
    (h0 : jQb N (.tmp t0) (jJ6 Rep.str sep)) (h2 : jQb N (.tmp t2) (jJ6 (Rep.int .i64) n)) : jXf P o N [(t1, jJh T Rep.str s)] jJm.triv [(t1, none), (d, some (qVz f T s sep n))] := by
  intro κ B F L h a w hst hn hk hdn next Q hnext _
  obtain ⟨e, hL, b, hv, rfl⟩ := hk.1
  have hne : t1 ≠ d := fun x => by rw [jWh.2 x] at hsd; cases hsd
  have k0 := h0 h a hn
  have k2 := h2 h a hn
  have hok := (hst.own (k := Sum.inl t1) hL).2
  have hst2 := hst.swap (e' := qV5 b (a.eval (.tmp t0)) (a.eval (.tmp t2)) T s sep n) hL (fun c hc => ⟨c, hc, rfl, Nat.le_refl _⟩) ⟨hok, k0, k2⟩
  unfold Oper.wpK
  have : (execOp a.eval o).run P w = .ok (.value (.func (.func f) #[] #[a.eval (.tmp t0), .pointer (some ⟨b, 0, none⟩), a.eval (.tmp t2)])) w := by
    have hv' : a.eval (.tmp t1) = .pointer (some ⟨b, 0, none⟩) := hv
    simp [execOp, ho, Instr.makeFunc, hv']
  rw [this]
  refine hnext _ h w _ (Hle.refl h) trivial (hst2.mv t1 d) ?_
  rw [hd]
  exact jRn (L0 := L) (fun k hk => by simp [set1, hk]) hne jYa ⟨b, _, _, by rw [jQa (hdn d hd)], rfl⟩
section
variable {κ : Type} {B : Base} {h0 : H} {Γ : Ctx} {Λ : Own} {F : κ → Option Ent} {n : Nat} {a : Act} {w : World}
theorem At.seqGhost {f : FuncId} {T : TypeId} {s sep : Str} {m : Int} (t g : Nat) (hsg : Nat.beq t g = false) (hAt : At B h0 Γ Λ F n a w) (hs : Λ t = some (qVz f T s sep m)) :
    ∃ u, At B h0 (fun k => bif Nat.beq t k then qKz f [jJ6 Rep.str sep, fIs u, jJ6 (Rep.int .i64) m] else Γ k) (fun k => bif Nat.beq g k then some (atV (jQf T Rep.str s []) u) else bif Nat.beq t k then none else Λ k) F n a w := by
  obtain ⟨h, L, hle, hst, hOw, hsat, hsz, hdf⟩ := hAt
  obtain ⟨e, hL, b, c0, c2, hv, rfl⟩ := hOw t _ hs
  have hne : t ≠ g := fun x => by rw [jWh.2 x] at hsg; cases hsg
  obtain ⟨hb, k0, k2⟩ := (hst.own (k := Sum.inl t) hL).2
  obtain ⟨cs, hb1, hb2⟩ := hb
  have hst2 := hst.swap (e' := jZy b T Rep.str s []) hL (fun c hc => ⟨c, by simpa [jZy, qV5, qZc] using hc, rfl, Nat.le_refl _⟩) ⟨⟨cs, hb1, hb2, fun u hu => by cases hu⟩, fun u hu => by cases hu⟩
  refine ⟨.pointer (some ⟨b, 0, none⟩), h, mv (set1 L t (jZy b T Rep.str s [])) t g, hle, hst2.mv t g, ?_, ?_, hsz, hdf⟩
  · intro k q' hq'
    cases hk : Nat.beq g k with
    | true =>
      simp only [hk, cond_true] at hq'; cases hq'; rw [jWh] at hk; subst hk
      exact ⟨jZy b T Rep.str s [], by simp [mv, set1], b, [], rfl, trivial, ⟨List.Pairwise.nil, fun u hu => by cases hu⟩, rfl⟩
    | false =>
      simp only [hk, cond_false] at hq'
      cases hk2 : Nat.beq t k with
      | true => simp only [hk2, cond_true] at hq'; cases hq'
      | false =>
        simp only [hk2, cond_false] at hq'
        have n1 : k ≠ g := fun x => by rw [jWh.2 x.symm] at hk; cases hk
        have n2 : k ≠ t := fun x => by rw [jWh.2 x.symm] at hk2; cases hk2
        obtain ⟨e', h1, h2⟩ := hOw k q' hq'
        exact ⟨e', by simp [mv, set1, n1, n2, h1], h2⟩
  · intro k
    cases hk : Nat.beq t k with
    | true =>
      simp only [hk, cond_true]
      rw [jWh] at hk; subst hk
      show ∃ cap : List Value, a.gt t = .func (.func f) #[] cap.toArray ∧ _
      refine ⟨[c0, .pointer (some ⟨b, 0, none⟩), c2], hv, rfl, fun j gg u hg hu => ?_⟩
      match j, hg, hu with
      | 0, hg, hu => cases hg; cases hu; exact k0
      | 1, hg, hu => cases hg; cases hu; rfl
      | 2, hg, hu => cases hg; cases hu; exact k2
    | false => simp only [hk, cond_false]; exact hsat k
end
end Go.KB
