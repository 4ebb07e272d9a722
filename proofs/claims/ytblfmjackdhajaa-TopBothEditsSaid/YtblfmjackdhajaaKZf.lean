/- Raw cells, variables that hold maps, variables that are captured or that go to keys that are no slots. Functions as numbers, slices of which nil is known, regions in parts, objects that are handed back. Variables of which several fields are rows or maps that are owned. clear of the end of a row that is owned. Struct values of which several fields are rows that are owned: variables, arguments, results. maps.Clone: a copy of a map that is owned. No condition. -/
import Derived.Test.YtblfmjackdhajaaKZe
import Derived.Lib.LazyBuf
namespace Go.KB
variable {P : Program} {o : Oper} {N : List (Nat × jJm)} {α β : Type}
def Rep.rawZ (z : Value) (hz : z.oneCell' = true) : Rep Value where
 sz := 1
 agg := false
 rel := fun _ cs v => cs = [v] ∧ v.oneCell' = true
 zero := z
 zc := [z]
 one := fun _ => rfl
 len := fun e => by rw [e.1]; rfl
 flat := fun e c hc => by rw [e.1] at hc; simp at hc; rw [hc]; exact e.2
 mono := fun _ e => e
 zrel := fun _ => ⟨rfl, hz⟩
abbrev Rep.rawM : Rep Value := Rep.rawZ (.map none) rfl
abbrev Rep.rawP : Rep Value := Rep.rawZ (.pointer none) rfl
theorem jMk {z : Value} {hz : z.oneCell' = true} {h : H} {v x : Value} : (Rep.rawZ z hz).val h v x → v = x := fun ⟨_, e, e'⟩ => by rw [e', e.1]; rfl
theorem jYw {z : Value} {hz : z.oneCell' = true} {x : Operand} {sv : Value} (hx : jQz N x (fV (Rep.rawZ z hz) sv)) : jQz N x (fIs sv) := fun h a n => jMk (hx h a n)
theorem jQ8 {T : TypeId} {z : Value} {hz : z.oneCell' = true} {sv : Value} {x : Operand} (t : jYc P T (Rep.rawZ z hz)) (ho : o.op = .load T x) (hx : jQz N x (jXb (Rep.rawZ z hz) sv)) : jQ1 P o N [] (fIs sv) [] :=
 jQ1.out (f := fV (Rep.rawZ z hz) sv) (f' := fIs sv) rfl (fun _ _ _ hp => jMk (z := z) (hz := hz) hp) (jYq t ho hx)
section
variable {κ : Type} {B : Base} {h0 : H} {Γ : Ctx} {Λ : Own} {F : κ → Option Ent} {n : Nat} {a : Act} {w : World}
theorem At.boxGhost {T : TypeId} {r : Rep α} {x : α} (s g : Nat) (hsg : Nat.beq s g = false) (hAt : At B h0 Γ Λ F n a w) (hs : Λ s = some (jQh T r x)) :
  ∃ sv, At B h0 (fun k => bif Nat.beq s k then fIs sv else Γ k) (fun k => bif Nat.beq g k then some (atV (jZq T r x []) sv) else bif Nat.beq s k then none else Λ k) F n a w := by
 have h1 := hAt.swapE (q' := jZq T r x []) s hs (fun v e ⟨b, hv, he⟩ => ⟨jYt b T r x [], ⟨b, [], hv, trivial, ⟨List.Pairwise.nil, fun u hu => by cases hu⟩, rfl⟩, by
  subst he
  intro c hc
  exact ⟨c, by simpa [jYt, jHf, jA9] using hc, rfl, Nat.le_refl _⟩, by
  subst he
  rintro h m ⟨cs, h1, h2⟩
  exact ⟨⟨cs, h1, h2, fun u hu => by cases hu⟩, fun u hu => by cases hu⟩⟩)
 obtain ⟨sv, h2⟩ := h1.toVal (q := jZq T r x []) s g hsg (by simp [Nat.beq_refl])
 refine ⟨sv, ?_⟩
 have e : (fun k => bif Nat.beq g k then some (atV (jZq T r x []) sv) else bif Nat.beq s k then none else bif Nat.beq s k then some (jZq T r x []) else Λ k) = (fun k => bif Nat.beq g k then some (atV (jZq T r x []) sv) else bif Nat.beq s k then none else Λ k) := by
  funext k
  cases Nat.beq g k <;> cases Nat.beq s k <;> rfl
 rw [e] at h2
 exact h2
end
theorem jJ6 {T : TypeId} {r : Rep α} {y : α} {ts : List jXm} {g : Nat} {sv : Value} {x : Operand} (ho : o.op = .nilCheck x) (hx : jQz N x (fIs sv)) : jQ1 P o N [(g, atV (jZq T r y ts) sv)] (fIs sv) [] := by
 intro κ B F L h a w hst hn hk _ next Q hnext _
 obtain ⟨e, _, b, us, hv, _⟩ := hk.1
 have hx' : a.eval x = sv := hx h a hn
 unfold Oper.wpK
 have : (execOp a.eval o).run P w = .ok (.value sv) w := by simp [execOp, ho, hx', hv]
 rw [this]
 exact hnext _ h w L (Hle.refl h) rfl hst jVe
theorem jNh {T T' : TypeId} {r : Rep α} {y : α} {ts : List jXm} {g : Nat} {sv : Value} {x : Operand} (ho : o.op = .box T x) (hx : jQz N x (fIs sv)) : jQ1 P o N [(g, atV (jZq T' r y ts) sv)] (jXb Rep.rawP sv) [] := by
 intro κ B F L h a w hst hn hk hdn next Q hnext hns
 obtain ⟨e, hL, hq⟩ := hk.1
 obtain ⟨b, us, hv, _⟩ := hq
 have h1 : jQ1 P { o with op := .box T (.const sv) } N [] (jXb Rep.rawP sv) [] := jDc (T := T) (r := Rep.rawP) (y := sv) rfl (fun h a n => ⟨[sv], ⟨rfl, by rw [hv]; rfl⟩, rfl⟩)
 have hx' : a.eval x = sv := hx h a hn
 have h2 := h1 κ B F L h a w hst hn trivial hdn next Q hnext (fun v h' w' L' a1 a2 a3 a4 => hnext v h' w' L' a1 a2 a3 (fun s => by
  have := a4 s
  cases hl : lkU (full ([] : Upd) o.dst) s with
  | some e => rw [hl] at this; cases e <;> exact this
  | none =>
   rw [hl] at this
   rcases this with h | ⟨q, hm, _⟩
   ·exact h
   ·cases hm))
 unfold Oper.wpK at h2 ⊢
 have e1 : (execOp a.eval { o with op := Op.box T (.const sv) }).run P w = (execOp a.eval o).run P w := by
  simp only [execOp, ho, hx']; rfl
 rw [e1] at h2
 exact h2
end Go.KB
namespace Go.KB
variable {P : Program} {o : Oper} {N : List (Nat × jJm)} {α β : Type}
def Rep.fnum : Rep (Option Nat) := Rep.scalar (fun x => match x with | some f => .func (.func f) #[] #[] | none => .nilFunc) none (by intro x; cases x <;> rfl)
theorem jRg {h : H} {v : Value} {x : Option Nat} : Rep.fnum.val h v x ↔ v = (match x with | some f => .func (.func f) #[] #[] | none => .nilFunc) :=
 ⟨fun ⟨_, e, e'⟩ => by rw [e', show _ = _ from e]; rfl, fun e => ⟨_, rfl, e⟩⟩
theorem opdFn {f : Nat} : jQz N (.func f) (fV Rep.fnum (some f)) := fun _ _ _ => jRg.2 rfl
theorem opdNum {f : Nat} {x : Operand} (hx : jQz N x (fV Rep.fnum (some f))) : jQz N x (jKw f []) := fun h a n => ⟨[], jRg.1 (hx h a n), rfl, fun j g u hg => by simp at hg⟩
theorem jMn {T T' T'' : TypeId} {r : Rep α} {y : α} {ts : List jXm} {g : Nat} {sv : Value} {x : Operand} (hT : P.underlying T = some (.pointer (P.pointee T))) (ho : o.op = .binOp .eql T x (.const (.pointer none)) T') (hx : jQz N x (fIs sv)) : jQ1 P o N [(g, atV (jZq T'' r y ts) sv)] (fV Rep.bool false) [] := by
 intro κ B F L h a w hst hn hk _ next Q hnext _
 obtain ⟨e, _, b, us, hv, _⟩ := hk.1
 have hx' : a.eval x = .pointer (some ⟨b, 0, none⟩) := (hx h a hn : a.eval x = sv).trans hv
 have hg : ∀ p, (eqGuard .eql T x (.const (.pointer none)) (.pointer p) (.pointer none)).run P w = .ok () w := by
  intro p; unfold eqGuard; rfl
 unfold Oper.wpK
 have : (execOp a.eval o).run P w = .ok (.value (.bool false)) w := by
  simp only [execOp, ho, hx', show a.eval (.const (.pointer none)) = .pointer none from rfl, hg, Sem.run_bind, Result.andThen_ok, Sem.run_pure, run_eql_pointer_nil w T (some ⟨b, 0, none⟩) hT]; rfl
 rw [this]
 exact hnext _ h w L (Hle.refl h) (jX0.2 rfl) hst jVe
def jAc : List (Nat × jXe) → List Po → List Po → Prop
 | (_, q0) :: r, p :: ps, p' :: ps' => (p' = p ∨ (p = .keep ∧ p' = .to q0)) ∧ jAc r ps ps'
 | [], [], [] => True
 | _, _, _ => False
theorem jAc.ok {E : Nat → Option Ent} {g : Nat → Value} : ∀ {pre : List (Nat × jXe)} {ps ps' : List Po}, jAc pre ps ps' → jFv pre ps E g → jFv pre ps' E g := by
 intro pre
 induction pre with
 | nil => intro ps ps' h _; cases ps <;> cases ps' <;> first | trivial | exact h.elim
 | cons x r ih =>
  obtain ⟨k, q0⟩ := x
  intro ps ps' h hp
  cases ps with
  | nil => exact h.elim
  | cons p ps => cases ps' with
   | nil => exact h.elim
   | cons p' ps' =>
    obtain ⟨h1, h2⟩ := h
    refine ⟨?_, ih h2 hp.2⟩
    rcases h1 with rfl | ⟨rfl, rfl⟩
    ·exact hp.1
    ·exact hp.1
theorem jYa.post {f : FuncId} {args : List jJm} {pre : List (Nat × jXe)} {ps ps' : List Po} {own : Option jXe} {res : jJm} (h : jYa P f args pre ps own res) (hw : jAc pre ps ps') : jYa P f args pre ps' own res := by
 intro κ B L h0 w vs E hst hl hpre hargs
 exact (h κ B L h0 w vs E hst hl hpre hargs).mono fun e w' ⟨u, h', E', a, b, c, d, x, y⟩ => ⟨u, h', E', a, b, c, hw.ok d, x, y⟩
theorem jSe {ρ : Option Nat} {ops ops' : Array Oper} {Q : Exit → Act → World → Prop} {i j : Nat} {K : Act → World → Prop} {a : Act} {w : World} (h : ops'[i]? = ops[j]?) (hg : ∀ o, ops[j]? = some o → o.guard = none)
  (hh : wpOpIn (rdF ρ) 0 P ops' Q i K a w) : wpOpIn (rdF ρ) 0 P ops Q j K a w := by
 unfold wpOpIn at *
 rw [h] at hh
 cases hj : ops[j]? with
 | none => rw [hj] at hh; exact hh
 | some o =>
  rw [hj] at hh
  simp only [] at hh ⊢
  have w1 : ∀ f, Region.wanted o f = true := fun f => by simp [Region.wanted, hg o hj]
  rw [w1] at hh ⊢
  exact hh
def jD7 : List Oper → Bool
 | [] => true
 | o :: r => o.guard.isNone && jD7 r
theorem jL7 : ∀ {l : List Oper}, jD7 l = true → ∀ {i : Nat} {o : Oper}, l[i]? = some o → o.guard = none := by
 intro l
 induction l with
 | nil => intro _ i o h; simp at h
 | cons x r ih =>
  intro h i o hi
  simp only [jD7, Bool.and_eq_true] at h
  cases i with
  | zero => simp at hi; subst hi; simpa using h.1
  | succ i => exact ih h.2 (by simpa using hi)
section
variable {ρ : Option Nat} {κ : Type} {B : Base} {h0 : H} {Γ : Ctx} {Λ : Own} {F : κ → Option Ent} {n : Nat} {ops : Array Oper} {a : Act} {w : World} {Q : Exit → Act → World → Prop}
theorem qQg {id : Nat} (m : Nat) (hm : ops.size = m) (h : wpOpsIn (rdF ρ) 0 P ops Q (List.range' 0 m) a w) : (Code.region id ops false).wpK ρ P Q a w := by
 subst hm
 refine wpIn_region ?_
 rwa [List.range_eq_range']
theorem opsEnd {i : Nat} (h : Q .normal a w) : wpOpsIn (rdF ρ) 0 P ops Q (List.range' i 0) a w := h
theorem jCe (i k m' : Nat) {m : Nat} (hm : m = k + m') (sp : List OS) (l₀ m₀ : List Nat) (hAt : At B h0 Γ Λ F n a w)
  (hobl : jCt P sp ((ops.toList.drop i).take k) Γ Λ ((ops.toList.drop i).take k) sp)
  (hchk : (chk Γ Λ false ((ops.toList.drop i).take k) sp && jH4 n ((ops.toList.drop i).take k) && jD7 ops.toList && Nat.ble (i + k) ops.toList.length) = true)
  (hnext : ∀ a w, At B h0 (mkG (jLv (jF8 Γ ((ops.toList.drop i).take k) sp) l₀)) (mkO (jFr (jF4 Λ ((ops.toList.drop i).take k) sp) m₀)) F n a w → wpOpsIn (rdF ρ) 0 P ops Q (List.range' (i + k) m') a w) :
  wpOpsIn (rdF ρ) 0 P ops Q (List.range' i m) a w := by
 simp only [Bool.and_eq_true, Nat.ble_eq] at hchk
 obtain ⟨⟨⟨hc, hs⟩, hng⟩, hle⟩ := hchk
 have hslots := jHn hs
 generalize hl : (ops.toList.drop i).take k = ol at *
 have hlen := (jB4 _ _ hobl).1
 have hk : ol.length = k := by rw [← hl, List.length_take, List.length_drop]; omega
 have hat : ∀ j, j < k → ol.toArray[j]? = ops[i + j]? := by
  intro j hj
  rw [← hl]
  simp only [List.getElem?_toArray, List.getElem?_take, hj, if_true, List.getElem?_drop, Array.getElem?_toList]
 have key : ∀ r j a w, j + r = k → J B h0 Γ Λ F n ol sp (fun x => Nat.blt x j) a w → wpOpsIn (rdF ρ) 0 P ops Q (List.range' (i + j) (r + m')) a w := by
  intro r
  induction r with
  | zero =>
   intro j a w hj hJ
   have hjk : j = k := by omega
   subst hjk
   rw [Nat.zero_add]
   refine hnext a w ((qJ4 (ops := ol.toArray) hlen hJ ?_).pick _ _)
   intro j' o hj'
   have : j' < ol.length := by rw [jUy] at hj'; exact (List.getElem?_eq_some_iff.1 hj').1
   rw [Nat.blt_eq]; omega
  | succ r ih =>
   intro j a w hj hJ
   rw [show r + 1 + m' = (r + m') + 1 by omega, List.range'_succ, wpOpsIn_cons]
   have hjl : j < ol.length := by omega
   have hi : jGq ol j = some ol[j] := by rw [jUy]; simp [hjl]
   refine wpOpIn_mono (K := J B h0 Γ Λ F n ol sp (fun x => bif Nat.beq x j then true else Nat.blt x j)) ?_ (jSe (hat j (by omega)) (fun o ho => jL7 hng (by rwa [Array.getElem?_toList])) (jPs (ops := ol.toArray) (draw := false) hobl hc hslots hi ?_ ?_ ?_ ?_ hJ))
   ·intro a w hJ'
    refine ih (j + 1) a w (by omega) (jDb (fun x o _ => ?_) hJ')
    cases hb : Nat.beq x j with
    | true => rw [jWf] at hb; subst hb; simp [Nat.blt_eq]
    | false =>
     have : x ≠ j := fun e => by rw [jWf.2 e] at hb; cases hb
     simp only [cond_false]
     rw [Bool.eq_iff_iff, Nat.blt_eq, Nat.blt_eq]; omega
   ·rw [Bool.eq_false_iff, Ne, Nat.blt_eq]; omega
   ·intro x hx; simpa [numOf] using hx
   ·intro x o' _ hx
    simp only [numOf, cond_false, Nat.blt_eq] at hx
    rw [Bool.eq_false_iff, Ne, Nat.blt_eq]; omega
   ·intro x o' _ hx y hy
    simp only [numOf, cond_false, Nat.blt_eq] at hx hy ⊢
    omega
 rw [hm]
 exact key k 0 a w (by omega) (jDb (fun j o _ => by rw [eq_comm, Bool.eq_false_iff, Ne, Nat.blt_eq]; omega) (jN7 hAt _ sp))
end
def jRc : List jXe → KE → Prop
 | q :: r, p :: l => q undef p.2 ∧ jRc r l
 | [], [] => True
 | _, _ => False
def jQ {S : Type} (mk : S → Value → List jXe) : jXe := fun v e => ∃ (s : S) (l : KE), jRc (mk s v) l ∧ jLk l = true ∧ jN4 l ∧ e = jHu l
def jTr : List Nat → List jXe → List (Nat × jXe)
 | k :: ks, q :: r => (k, q) :: jTr ks r
 | _, _ => []
def jAp : List Nat → KE → KE
 | k :: ks, p :: l => (k, p.2) :: jAp ks l
 | _, _ => []
def qJ7 : List jXe → Prop
 | q :: r => Gh q ∧ qJ7 r
 | [] => True
theorem jMg : ∀ {l : KE} {ks : List Nat} {p : Nat × Ent}, p ∈ jAp ks l → ∃ k, (k, p.2) ∈ l := by
 intro l
 induction l with
 | nil => intro ks p h; cases ks <;> cases h
 | cons x r ih =>
  intro ks p h
  cases ks with
  | nil => cases h
  | cons k ks =>
   rcases List.mem_cons.1 h with rfl | h
   ·exact ⟨x.1, List.mem_cons_self⟩
   ·obtain ⟨k', h'⟩ := ih h; exact ⟨k', List.mem_cons_of_mem _ h'⟩
theorem jN8 {l : KE} {ks : List Nat} {c} (h : c ∈ (jHu (jAp ks l)).claims) : c ∈ (jHu l).claims := by
 obtain ⟨p, hp, hc⟩ := List.mem_flatMap.1 h
 obtain ⟨k, hk⟩ := jMg hp
 exact List.mem_flatMap.2 ⟨_, hk, hc⟩
theorem jCh : ∀ {l : KE} {ks : List Nat}, jN4 l → jN4 (jAp ks l) := by
 intro l
 induction l with
 | nil => intro ks _; cases ks <;> exact List.Pairwise.nil
 | cons x r ih =>
  intro ks h
  cases ks with
  | nil => exact List.Pairwise.nil
  | cons k ks =>
   obtain ⟨h1, h2⟩ := List.pairwise_cons.1 h
   exact List.pairwise_cons.2 ⟨fun p hp => let ⟨k', hk'⟩ := jMg hp; h1 (k', p.2) hk', ih h2⟩
theorem qQl {k : Nat} : ∀ {qs : List jXe} {l : KE} {ks : List Nat}, jRc qs l → qJ7 qs → qs.length = ks.length →
  (lkO (jTr ks qs) k = none ∧ lkE (jAp ks l) k = none) ∨ ∃ q e, lkO (jTr ks qs) k = some q ∧ lkE (jAp ks l) k = some e ∧ q undef e ∧ Gh q := by
 intro qs
 induction qs with
 | nil => intro l ks hm _ hl; cases l with
  | nil => cases ks <;> exact .inl ⟨rfl, rfl⟩
  | cons => exact hm.elim
 | cons q qs ih =>
  intro l ks hm hg hl
  cases l with
  | nil => exact hm.elim
  | cons p l => cases ks with
   | nil => cases hl
   | cons k0 ks =>
    simp only [jTr, jAp, lkO, lkE]
    cases hb : Nat.beq k0 k with
    | true => exact .inr ⟨q, p.2, rfl, rfl, hm.1, hg.1⟩
    | false => exact ih hm.2 hg.2 (by simpa using hl)
section
variable {κ : Type} {B : Base} {h0 : H} {Γ : Ctx} {Λ : Own} {F : κ → Option Ent} {n : Nat} {a : Act} {w : World} {vM : Nat → Value} {pre : List (Nat × jXe)} {post : List Po}
theorem At.splitJQ {S : Type} {mk : S → Value → List jXe} (d : Nat) (ks : List Nat) (hlen : ∀ s v, (mk s v).length = ks.length) (hG : ∀ s v, qJ7 (mk s v)) (hAt : At B h0 Γ Λ F n a w) (hs : Λ d = some (jQ mk)) :
  ∃ s sv, At B h0 (fun k => bif Nat.beq d k then fIs sv else Γ k) (fun k => match lkO (jTr ks (mk s sv)) k with | some q => some q | none => bif Nat.beq d k then none else Λ k) F n a w := by
 obtain ⟨h, L, hle, hst, hOw, hsat, hsz, hdf⟩ := hAt
 obtain ⟨e, hL, s, l, hm, hnd, hdj, rfl⟩ := hOw d _ hs
 have hst1 := hst.swap (e' := jHu (jAp ks l)) hL (fun c hc => ⟨c, jN8 hc, rfl, Nat.le_refl _⟩) (fun p hp => by
  obtain ⟨k, hk⟩ := jMg hp
  exact (hst.own (k := Sum.inl d) hL).2 (k, p.2) hk)
 have hst2 := hst1.splitK (g := d) (l := jAp ks l) jH3 (jCh hdj)
 refine ⟨s, a.gt d, h, _, hle, hst2, ?_, ?_, hsz, hdf⟩
 ·intro k q hq
  rcases qQl (k := k) hm (hG s _) (hlen s _) with ⟨h1, h2⟩ | ⟨q', e, h1, h2, h3, h4⟩
  ·simp only [h1] at hq
   simp only [h2]
   cases hb : Nat.beq d k with
   | true => rw [hb] at hq; cases hq
   | false =>
    rw [hb] at hq
    have hne : k ≠ d := fun x => by rw [jWf.2 x.symm] at hb; cases hb
    obtain ⟨e, h5, h6⟩ := hOw k q hq
    exact ⟨e, by rw [if_neg hne]; simp [set1, hne, h5], h6⟩
  ·simp only [h1] at hq
   cases hq
   simp only [h2]
   exact ⟨e, rfl, h4 _ _ _ h3⟩
 ·intro k
  cases hb : Nat.beq d k with
  | true => simp only [cond_true, hb]; rw [jWf] at hb; subst hb; exact rfl
  | false => simp only [cond_false, hb]; exact hsat k
def jR9 (Λ : Own) : List Nat → List jXe → Prop
 | k :: ks, q :: r => Λ k = some q ∧ Gh q ∧ jR9 Λ ks r
 | [], [] => True
 | _, _ => False
def jH1 (ks : List Nat) : List (Nat × jXe) → Bool
 | [] => true
 | (k, _) :: r => !(has ks k) && !(Nat.beq k 9999) && jH1 ks r
theorem jBp {ks : List Nat} : ∀ {l : List (Nat × jXe)}, jH1 ks l = true → ∀ k q, (k, q) ∈ l → has ks k = false ∧ k ≠ 9999 := by
 intro l
 induction l with
 | nil => intro _ k q h; cases h
 | cons x r ih =>
  intro h k q hk
  obtain ⟨k0, q0⟩ := x
  simp only [jH1, Bool.and_eq_true, Bool.not_eq_true'] at h
  rcases List.mem_cons.1 hk with h1 | h1
  ·cases h1
   exact ⟨h.1.1, fun x => by rw [jWf.2 x] at h; exact absurd h.1.2 (by simp)⟩
  ·exact ih h.2 k q h1
theorem jT1 {L : Nat → Option Ent} (hOw : jSx Λ L a) : ∀ {ks : List Nat} {qs : List jXe}, jR9 Λ ks qs → jNz ks = true → ∃ l : KE, jRc qs l ∧ jLk l = true ∧ (∀ p ∈ l, L p.1 = some p.2) ∧ ∀ k, has ks k = false → lkE l k = none := by
 intro ks
 induction ks with
 | nil => intro qs h _; cases qs with
  | nil => exact ⟨[], trivial, rfl, ⟨(fun p hp => absurd hp List.not_mem_nil), fun _ _ => rfl⟩⟩
  | cons => exact h.elim
 | cons k ks ih =>
  intro qs h hn
  cases qs with
  | nil => exact h.elim
  | cons q qs =>
   obtain ⟨h1, h2, h3⟩ := h
   simp only [jNz, Bool.and_eq_true, Bool.not_eq_true'] at hn
   obtain ⟨l, g1, g2, g3, g4⟩ := ih h3 hn.2
   obtain ⟨e, he, hq⟩ := hOw k q h1
   refine ⟨(k, e) :: l, ⟨h2 _ _ _ hq, g1⟩, ?_, ?_, ?_⟩
   ·simp only [jLk, g4 k hn.1, Option.isSome_none, Bool.not_false, Bool.true_and]; exact g2
   ·intro p hp
    rcases List.mem_cons.1 hp with rfl | hp
    ·exact he
    ·exact g3 p hp
   ·intro k' hk'
    simp only [has, Bool.or_eq_false_iff] at hk'
    simp only [lkE, hk'.1, cond_false]
    exact g4 k' hk'.2
theorem retGJ1 {fn : Func} {S : Type} {mk : S → Value → List jXe} {R : Nat} {sv : Value} (s : S) (ks : List Nat) (hr : fn.results = #[.tmp R]) (hR : Γ R = fIs sv) (hks : jR9 Λ ks (mk s sv)) (hn : (jNz ks && jH1 ks pre) = true)
  (hA : PostA Γ Λ vM pre post) (hAt : At B h0 Γ Λ F n a w) : jBw P fn B h0 F vM pre post (some (jQ mk)) jJm.triv .ret a w := by
 obtain ⟨h, L, hl, hst, hOw, hsat, _, hdf⟩ := hAt
 rw [Bool.and_eq_true] at hn
 obtain ⟨l, g1, g2, g3, g4⟩ := jT1 hOw hks hn.1
 have hRv := hsat R
 rw [hR] at hRv
 have hRv : a.gt R = sv := hRv
 have hv0 : (resV a.tmps (.tmp R)).run P w = .ok (a.gt R) w := rfl
 refine fun hB => .inl ⟨hdf.trans hB, a.gt R, ?_, _, h, _, rfl, hl, hst.jHu 9999 g3, hA.ok hOw hsat (fun k q hm => ?_), ⟨jHu l, if_pos rfl, s, l, by rw [hRv]; exact g1, g2, jTm hst g3 g2, rfl⟩, trivial⟩
 ·rw [jW2]; simp [hr, hv0]
 ·obtain ⟨a1, a2⟩ := jBp hn.2 k q hm
  simp only [if_neg a2, g4 k a1]; rfl
end
theorem jV3 {sv sm : Value} {T T' : TypeId} {r : Rep α} {ts : List jXm} {s off : Nat} {x : Operand} {y : α} {get : α → Value} {set : α → Value → α} (l : Lens r Rep.rawM off get set) (t : jYc P T Rep.rawM) (ho : o.op = .load T x) (hx : jQz N x (jZy sv off)) (hg : get y = sm) :
  jQ1 P o N [(s, atV (jZq T' r y ts) sv)] (fIs sm) [] := by
 subst hg
 exact jQ1.out (f := fV Rep.rawM (get y)) rfl (fun _ _ _ hp => jMk (z := .map none) (hz := rfl) hp) (jQ4 l t ho hx)
def jRh {A C R : Type} (v : Option A × C) (f : C → Option R) (g : A → C → Option R) : Option R := match v with
 | (none, e) => f e
 | (some x, e) => g x e
theorem spN {A C R : Type} {f : C → Option R} {g : A → C → Option R} {e : C} {r : R} (H : jRh (none, e) f g = some r) : f e = some r := H
theorem spS {A C R : Type} {f : C → Option R} {g : A → C → Option R} {x : A} {e : C} {r : R} (H : jRh (some x, e) f g = some r) : g x e = some r := H
theorem jSp {T : TypeId} {r : Rep α} {ts : List jXm} {x : Operand} {y : α} {d : Nat} (hd : o.dst = some d) (ho : o.op = .box T x) (hx : jQz N x (fVN r y ts)) : jQ1 P o N [] jJm.triv [(d, some (jZq T r y ts))] := by
 intro κ B F L h a w hst hn _ hdn next Q hnext _
 obtain ⟨cs, hr, hv, hz⟩ := hx h a hn
 unfold Oper.wpK
 have : (execOp a.eval o).run P w = .ok (.value (.pointer (some ⟨w.heap.size, 0, none⟩))) (w.alloc (.cells cs.toArray T)) := by
  simp [execOp, ho, Instr.box, hv, jBy hr]
 rw [this]
 refine hnext _ h _ (set1 L d (jYt w.heap.size T r y (jPn ts))) (Hle.refl h) trivial (hst.own_new _ d _ ?_ ⟨⟨_, jDm _ _, hr, hz.at⟩, fun u hu => by rw [(jM5 hu).1]; trivial⟩) ?_
 ·intro c hc
  have : c ∈ (w.heap.size, 0) :: jA9 (jPn ts) := hc
  rw [jRj] at this
  simp at this; rw [this]
 rw [hd]
 exact jW7 ⟨_, _, jQm (hdn d hd), jNm ts, jP2 _ ts, rfl⟩
theorem At.mapVal {κ : Type} {B : Base} {h0 : H} {Γ : Ctx} {Λ : Own} {F : κ → Option Ent} {n : Nat} {a : Act} {w : World} {f : α → Value} {rv : Rep β} {l : List (α × β)} (s g : Nat) (hsg : Nat.beq s g = false) (hAt : At B h0 Γ Λ F n a w) (hs : Λ s = some (jJp f rv l)) :
  ∃ sv, At B h0 (fun k => bif Nat.beq s k then fV Rep.rawM sv else Γ k) (fun k => bif Nat.beq g k then some (atV (jJp f rv l) sv) else bif Nat.beq s k then none else Λ k) F n a w := by
 obtain ⟨sv, h, L, hle, hst, hOw, hsat, hsz, hdf⟩ := hAt.toVal s g hsg hs
 refine ⟨sv, h, L, hle, hst, hOw, ?_, hsz, hdf⟩
 obtain ⟨e, hL, b, hv, _⟩ := hOw g (atV (jJp f rv l) sv) (by simp [Nat.beq_refl])
 intro k
 have := hsat k
 cases hb : Nat.beq s k with
 | true =>
  simp only [hb, cond_true] at this ⊢
  have hg : a.gt k = sv := this
  exact ⟨[sv], ⟨rfl, by rw [hv]; rfl⟩, by rw [hg]; rfl⟩
 | false => simp only [hb, cond_false] at this ⊢; exact this
end Go.KB
namespace Go.KB
variable {P : Program} {o : Oper} {N : List (Nat × jJm)} {α β ρ : Type}
section
variable {κ : Type} {B : Base} {h : H} {L : Nat → Option Ent} {F : κ → Option Ent} {w : World}
end
section
variable {κ : Type} {B : Base} {h0 : H} {Γ : Ctx} {Λ : Own} {F : κ → Option Ent} {n : Nat} {a : Act} {w : World}
end
end Go.KB
namespace Go.KB
variable {P : Program} {o : Oper} {N : List (Nat × jJm)} {α β : Type}
theorem opdF {P : Program} {N : List (Nat × jJm)} {ι : Type} {A : ι → List jJm} {R : ι → jJm} {f : FuncId} {fn : Func} (hc : ∀ i, FnOk P f (A i) (R i)) (hf : P.funcs[f]? = some fn) (hb : jYn fn = true) : jQz N (.func f) (fF P A R) :=
 fun h a _ => ⟨f, fn, #[], rfl, hf, hb, fun i κ B L h' w' vs hl hst hvl hvs => by simpa using hc i κ B L h' w' vs hst hvl hvs⟩
theorem opdF1 {P : Program} {N : List (Nat × jJm)} {α β : Type} {r : Rep α} {q : Rep β} {φ : α → Option β} {f : FuncId} {fn : Func} (hc : ∀ x y, φ x = some y → FnOk P f [fV r x] (fV q y)) (hf : P.funcs[f]? = some fn) (hb : jYn fn = true) : jQz N (.func f) (fF1 P r q φ) := opdF (fun i => hc _ _ i.2) hf hb
theorem opdF2 {P : Program} {N : List (Nat × jJm)} {α β γ : Type} {r : Rep α} {s : Rep γ} {q : Rep β} {φ : α → γ → Option β} {f : FuncId} {fn : Func} (hc : ∀ x y z, φ x y = some z → FnOk P f [fV r x, fV s y] (fV q z)) (hf : P.funcs[f]? = some fn) (hb : jYn fn = true) : jQz N (.func f) (fF2 P r s q φ) := opdF (fun i => hc _ _ _ i.2) hf hb
theorem jCl {P : Program} {o : Oper} {N : List (Nat × jJm)} {q : jXe} {s d : Nat} (hsd : Nat.beq s d = false) (hd : o.dst = some d) (ho : o.op = .extract (.tmp s) 0) : jQ1 P o N [(s, jSj q)] jJm.triv [(s, none), (d, some q)] := by
 intro κ B F L h a w hst hn hk hdn next Q hnext _
 obtain ⟨e, hL, x, y, z, hv, hq⟩ := hk.1
 have hne : s ≠ d := fun x => by rw [jWf.2 x] at hsd; cases hsd
 have hv' : a.eval (.tmp s) = .tuple #[x, y, z] := hv
 unfold Oper.wpK
 have : (execOp a.eval o).run P w = .ok (.value x) w := by simp [execOp, ho, hv', Instr.extract]
 rw [this]
 refine hnext _ h w _ (Hle.refl h) trivial (hst.mv s d) ?_
 rw [hd]
 exact jFk hne hL (by rw [jQm (hdn d hd)]; exact hq)
end Go.KB
namespace Go.KB
variable {P : Program} {o : Oper} {N : List (Nat × jJm)} {α β ρ : Type}
section
variable {κ : Type} {B : Base} {h0 : H} {Γ : Ctx} {Λ : Own} {F : κ → Option Ent} {n : Nat} {a : Act} {w : World}
end
end Go.KB
namespace Go.KB
variable {P : Program} {α β : Type}
section
variable {ρ : Option Nat} {κ : Type} {B : Base} {h0 : H} {Γ : Ctx} {Λ : Own} {F : κ → Option Ent} {n : Nat} {a : Act} {w : World} {vM : Nat → Value} {pre : List (Nat × jXe)} {post : List Po}
theorem qJq {fn : Func} {S : Type} {mk : S → Value → List jXe} {R : Nat} {sv : Value} (s : S) (ks : List Nat) {rv rv' : ResultVar} {g g' : jJm} (hr : fn.results = #[.tmp R, rv, rv']) (hR : Γ R = fIs sv) (hks : jR9 Λ ks (mk s sv)) (hn : (jNz ks && jH1 ks pre) = true) (h1 : jNr P Γ Λ rv g) (h2 : jNr P Γ Λ rv' g')
  (hA : PostA Γ Λ vM pre post) (hAt : At B h0 Γ Λ F n a w) : jBw P fn B h0 F vM pre post (some (jSj (jQ mk))) (fT3 jJm.triv g g') .ret a w := by
 obtain ⟨h, L, hl, hst, hOw, hsat, _, hdf⟩ := hAt
 rw [Bool.and_eq_true] at hn
 obtain ⟨l, g1, g2, g3, g4⟩ := jT1 hOw hks hn.1
 obtain ⟨v, hv, hp⟩ := h1 _ B F h a w L hst hOw hsat
 obtain ⟨v', hv', hp'⟩ := h2 _ B F h a w L hst hOw hsat
 have hRv := hsat R
 rw [hR] at hRv
 have hRv : a.gt R = sv := hRv
 have hv0 : (resV a.tmps (.tmp R)).run P w = .ok (a.gt R) w := rfl
 refine fun hB => .inl ⟨hdf.trans hB, Value.tuple #[a.gt R, v, v'], ?_, _, h, _, rfl, hl, hst.jHu 9999 g3, hA.ok hOw hsat (fun k q hm => ?_), ⟨jHu l, if_pos rfl, a.gt R, v, v', rfl, s, l, by rw [hRv]; exact g1, g2, jTm hst g3 g2, rfl⟩, _, _, _, rfl, trivial, hp, hp'⟩
 ·rw [jW2]; simp [hr, hv, hv', hv0]
 ·obtain ⟨a1, a2⟩ := jBp hn.2 k q hm
  simp only [if_neg a2, g4 k a1]; rfl
end
end Go.KB
