/- Raw cells, variables that hold maps, variables that are captured or that go to keys that are no slots. Functions as numbers, slices of which nil is known, regions in parts, objects that are handed back. Variables of which several fields are rows or maps that are owned. clear of the end of a row that is owned. Struct values of which several fields are rows that are owned: variables, arguments, results. maps.Clone: a copy of a map that is owned. No condition. -/
import Derived.Test.YtipapjkpbnjkmaaGreatDoorKZe
import Derived.Lib.LazyBuf
namespace Go.KB
variable {P : Program} {o : Oper} {N : List (Nat × jJa)} {α β : Type}
def Rep.rawZ (z : Value) (hz : z.oneCell' = true) : Rep Value where
 sz := 1
 agg := false
 rel := fun _ cs v => cs = [v] ∧ v.oneCell' = true
 zero := z
 zc := [z]
 one := fun _ => rfl
 len := fun e => by rw [e.1]; rfl
 flat := fun e c hc => by rw [e.1] at hc; simp at hc; rw [hc]; exact e.2
 mono := fun _ e => e
 zrel := fun _ => ⟨rfl, hz⟩
abbrev Rep.rawM : Rep Value := Rep.rawZ (.map none) rfl
abbrev Rep.rawP : Rep Value := Rep.rawZ (.pointer none) rfl
theorem jAp {z : Value} {hz : z.oneCell' = true} {h : H} {v x : Value} : (Rep.rawZ z hz).val h v x → v = x := fun ⟨_, e, e'⟩ => by rw [e', e.1]; rfl
theorem jQ9 {T : TypeId} {z : Value} {hz : z.oneCell' = true} {sv : Value} {x : Operand} (t : jKu P T (Rep.rawZ z hz)) (ho : o.op = .load T x) (hx : jJ9 N x (jQu (Rep.rawZ z hz) sv)) : jXg P o N [] (fIs sv) [] :=
 jXg.out (f := fV (Rep.rawZ z hz) sv) (f' := fIs sv) rfl (fun _ _ _ hp => jAp (z := z) (hz := hz) hp) (jU5 t ho hx)
section
variable {κ : Type} {B : Base} {h0 : H} {Γ : Ctx} {Λ : Own} {F : κ → Option Ent} {n : Nat} {a : Act} {w : World}
theorem St.freezeBox {h : H} {L : Nat → Option Ent} (hst : St B h (Sum.elim L F) w) (s : Nat) {b : Nat} {T : TypeId} {r : Rep α} {x : α} (hL : L s = some (jGg b T r x)) :
  ∃ h', Hle h h' ∧ St B h' (Sum.elim (fun k => if k = s then none else L k) F) w ∧ jHl r h' b 0 x := by
 obtain ⟨cs, hb, hr⟩ := jPl hst hL
 obtain ⟨hl2, hst2⟩ := hst.freeze (Sum.inl s) (e := jGg b T r x) hL (b := b) (lo := 0) (by simp [jGg]) hb cs.length (by simp) (L' := Sum.elim (fun k => if k = s then none else L k) F) (by
  intro k' e' hne he
  cases k' with
  | inr k => exact he
  | inl k =>
   have : k ≠ s := fun x => hne (by rw [x])
   simpa [this] using he) (fun e' he => by simp at he)
 have htk : cs.toArray.toList.take cs.length = cs := by simp
 rw [htk] at hl2 hst2
 refine ⟨_, hl2, hst2, cs, r.mono hl2 hr, fun j v hj => ?_⟩
 have hjl := (List.getElem?_eq_some_iff.1 hj).1
 rw [Nat.zero_add, jGr hjl, ← hj, List.getElem?_eq_getElem hjl]
theorem At.freezeBox {T : TypeId} {r : Rep α} {x : α} (s : Nat) (hAt : At B h0 Γ Λ F n a w) (hs : Λ s = some (jJ8 T r x)) :
  At B h0 (fun k => bif Nat.beq s k then jQu r x else Γ k) (fun k => bif Nat.beq s k then none else Λ k) F n a w := by
 obtain ⟨h, L, hle, hst, hOw, hsat, hsz, hdf⟩ := hAt
 obtain ⟨e, hL, b, hv, rfl⟩ := hOw s _ hs
 obtain ⟨h', hl, hst', hr⟩ := hst.freezeBox s hL
 refine ⟨h', _, hle.trans hl, hst', ?_, ?_, hsz, hdf⟩
 ·intro k q hq
  cases hk : Nat.beq s k with
  | true => simp only [hk, cond_true] at hq; cases hq
  | false =>
   simp only [hk, cond_false] at hq
   have : k ≠ s := fun x => by rw [jWm.2 x.symm] at hk; cases hk
   simpa [this] using hOw k q hq
 ·intro k
  cases hk : Nat.beq s k with
  | true =>
   simp only [hk, cond_true]
   rw [jWm] at hk; subst hk
   exact ⟨b, 0, hv, hr⟩
  | false => simp only [hk, cond_false]; exact (Γ k).mono hl (hsat k)
theorem At.boxGhost {T : TypeId} {r : Rep α} {x : α} (s g : Nat) (hsg : Nat.beq s g = false) (hAt : At B h0 Γ Λ F n a w) (hs : Λ s = some (jJ8 T r x)) :
  ∃ sv, At B h0 (fun k => bif Nat.beq s k then fIs sv else Γ k) (fun k => bif Nat.beq g k then some (atV (jJ6 T r x []) sv) else bif Nat.beq s k then none else Λ k) F n a w := by
 have h1 := hAt.swapE (q' := jJ6 T r x []) s hs (fun v e ⟨b, hv, he⟩ => ⟨jV9 b T r x [], ⟨b, [], hv, trivial, ⟨List.Pairwise.nil, fun u hu => by cases hu⟩, rfl⟩, by
  subst he
  intro c hc
  exact ⟨c, by simpa [jV9, jGg, qQ1] using hc, rfl, Nat.le_refl _⟩, by
  subst he
  rintro h m ⟨cs, h1, h2⟩
  exact ⟨⟨cs, h1, h2, fun u hu => by cases hu⟩, fun u hu => by cases hu⟩⟩)
 obtain ⟨sv, h2⟩ := h1.toVal (q := jJ6 T r x []) s g hsg (by simp [Nat.beq_refl])
 refine ⟨sv, ?_⟩
 have e : (fun k => bif Nat.beq g k then some (atV (jJ6 T r x []) sv) else bif Nat.beq s k then none else bif Nat.beq s k then some (jJ6 T r x []) else Λ k) = (fun k => bif Nat.beq g k then some (atV (jJ6 T r x []) sv) else bif Nat.beq s k then none else Λ k) := by
  funext k
  cases Nat.beq g k <;> cases Nat.beq s k <;> rfl
 rw [e] at h2
 exact h2
end
theorem jJ5 {T : TypeId} {r : Rep α} {y : α} {ts : List jJ4} {g : Nat} {sv : Value} {x : Operand} (ho : o.op = .nilCheck x) (hx : jJ9 N x (fIs sv)) : jXg P o N [(g, atV (jJ6 T r y ts) sv)] (fIs sv) [] := by
 intro κ B F L h a w hst hn hk _ next Q hnext _
 obtain ⟨e, _, b, us, hv, _⟩ := hk.1
 have hx' : a.eval x = sv := hx h a hn
 unfold Oper.wpK
 have : (execOp a.eval o).run P w = .ok (.value sv) w := by simp [execOp, ho, hx', hv]
 rw [this]
 exact hnext _ h w L (Hle.refl h) rfl hst jYb
theorem jSd {T T' : TypeId} {r : Rep α} {y : α} {ts : List jJ4} {g : Nat} {sv : Value} {x : Operand} (ho : o.op = .box T x) (hx : jJ9 N x (fIs sv)) : jXg P o N [(g, atV (jJ6 T' r y ts) sv)] (jQu Rep.rawP sv) [] := by
 intro κ B F L h a w hst hn hk hdn next Q hnext hns
 obtain ⟨e, hL, hq⟩ := hk.1
 obtain ⟨b, us, hv, _⟩ := hq
 have h1 : jXg P { o with op := .box T (.const sv) } N [] (jQu Rep.rawP sv) [] := jFn (T := T) (r := Rep.rawP) (y := sv) rfl (fun h a n => ⟨[sv], ⟨rfl, by rw [hv]; rfl⟩, rfl⟩)
 have hx' : a.eval x = sv := hx h a hn
 have h2 := h1 κ B F L h a w hst hn trivial hdn next Q hnext (fun v h' w' L' a1 a2 a3 a4 => hnext v h' w' L' a1 a2 a3 (fun s => by
  have := a4 s
  cases hl : lkU (full ([] : Upd) o.dst) s with
  | some e => rw [hl] at this; cases e <;> exact this
  | none =>
   rw [hl] at this
   rcases this with h | ⟨q, hm, _⟩
   ·exact h
   ·cases hm))
 unfold Oper.wpK at h2 ⊢
 have e1 : (execOp a.eval { o with op := Op.box T (.const sv) }).run P w = (execOp a.eval o).run P w := by
  simp only [execOp, ho, hx']; rfl
 rw [e1] at h2
 exact h2
end Go.KB
namespace Go.KB
variable {P : Program} {o : Oper} {N : List (Nat × jJa)} {α β : Type}
def Rep.fnum : Rep (Option Nat) := Rep.scalar (fun x => match x with | some f => .func (.func f) #[] #[] | none => .nilFunc) none (by intro x; cases x <;> rfl)
theorem jSj {h : H} {v : Value} {x : Option Nat} : Rep.fnum.val h v x ↔ v = (match x with | some f => .func (.func f) #[] #[] | none => .nilFunc) :=
 ⟨fun ⟨_, e, e'⟩ => by rw [e', show _ = _ from e]; rfl, fun e => ⟨_, rfl, e⟩⟩
theorem opdFn {f : Nat} : jJ9 N (.func f) (fV Rep.fnum (some f)) := fun _ _ _ => jSj.2 rfl
theorem opdNum {f : Nat} {x : Operand} (hx : jJ9 N x (fV Rep.fnum (some f))) : jJ9 N x (jK4 f []) := fun h a n => ⟨[], jSj.1 (hx h a n), rfl, fun j g u hg => by simp at hg⟩
theorem jGq {T T' T'' : TypeId} {r : Rep α} {y : α} {ts : List jJ4} {g : Nat} {sv : Value} {x : Operand} (hT : P.underlying T = some (.pointer (P.pointee T))) (ho : o.op = .binOp .eql T x (.const (.pointer none)) T') (hx : jJ9 N x (fIs sv)) : jXg P o N [(g, atV (jJ6 T'' r y ts) sv)] (fV Rep.bool false) [] := by
 intro κ B F L h a w hst hn hk _ next Q hnext _
 obtain ⟨e, _, b, us, hv, _⟩ := hk.1
 have hx' : a.eval x = .pointer (some ⟨b, 0, none⟩) := (hx h a hn : a.eval x = sv).trans hv
 have hg : ∀ p, (eqGuard .eql T x (.const (.pointer none)) (.pointer p) (.pointer none)).run P w = .ok () w := by
  intro p; unfold eqGuard; rfl
 unfold Oper.wpK
 have : (execOp a.eval o).run P w = .ok (.value (.bool false)) w := by
  simp only [execOp, ho, hx', show a.eval (.const (.pointer none)) = .pointer none from rfl, hg, Sem.run_bind, Result.andThen_ok, Sem.run_pure, run_eql_pointer_nil w T (some ⟨b, 0, none⟩) hT]; rfl
 rw [this]
 exact hnext _ h w L (Hle.refl h) (jX2.2 rfl) hst jYb
def qWj : List (Nat × jX3) → List Po → List Po → Prop
 | (_, q0) :: r, p :: ps, p' :: ps' => (p' = p ∨ (p = .keep ∧ p' = .to q0)) ∧ qWj r ps ps'
 | [], [], [] => True
 | _, _, _ => False
theorem qWj.ok {E : Nat → Option Ent} {g : Nat → Value} : ∀ {pre : List (Nat × jX3)} {ps ps' : List Po}, qWj pre ps ps' → jLx pre ps E g → jLx pre ps' E g := by
 intro pre
 induction pre with
 | nil => intro ps ps' h _; cases ps <;> cases ps' <;> first | trivial | exact h.elim
 | cons x r ih =>
  obtain ⟨k, q0⟩ := x
  intro ps ps' h hp
  cases ps with
  | nil => exact h.elim
  | cons p ps => cases ps' with
   | nil => exact h.elim
   | cons p' ps' =>
    obtain ⟨h1, h2⟩ := h
    refine ⟨?_, ih h2 hp.2⟩
    rcases h1 with rfl | ⟨rfl, rfl⟩
    ·exact hp.1
    ·exact hp.1
theorem jWf.post {f : FuncId} {args : List jJa} {pre : List (Nat × jX3)} {ps ps' : List Po} {own : Option jX3} {res : jJa} (h : jWf P f args pre ps own res) (hw : qWj pre ps ps') : jWf P f args pre ps' own res := by
 intro κ B L h0 w vs E hst hl hpre hargs
 exact (h κ B L h0 w vs E hst hl hpre hargs).mono fun e w' ⟨u, h', E', a, b, c, d, x, y⟩ => ⟨u, h', E', a, b, c, hw.ok d, x, y⟩
theorem qXj {ρ : Option Nat} {ops ops' : Array Oper} {Q : Exit → Act → World → Prop} {i j : Nat} {K : Act → World → Prop} {a : Act} {w : World} (h : ops'[i]? = ops[j]?) (hg : ∀ o, ops[j]? = some o → o.guard = none)
  (hh : wpOpIn (rdF ρ) 0 P ops' Q i K a w) : wpOpIn (rdF ρ) 0 P ops Q j K a w := by
 unfold wpOpIn at *
 rw [h] at hh
 cases hj : ops[j]? with
 | none => rw [hj] at hh; exact hh
 | some o =>
  rw [hj] at hh
  simp only [] at hh ⊢
  have w1 : ∀ f, Region.wanted o f = true := fun f => by simp [Region.wanted, hg o hj]
  rw [w1] at hh ⊢
  exact hh
def jM0 : List Oper → Bool
 | [] => true
 | o :: r => o.guard.isNone && jM0 r
theorem jRu : ∀ {l : List Oper}, jM0 l = true → ∀ {i : Nat} {o : Oper}, l[i]? = some o → o.guard = none := by
 intro l
 induction l with
 | nil => intro _ i o h; simp at h
 | cons x r ih =>
  intro h i o hi
  simp only [jM0, Bool.and_eq_true] at h
  cases i with
  | zero => simp at hi; subst hi; simpa using h.1
  | succ i => exact ih h.2 (by simpa using hi)
section
variable {ρ : Option Nat} {κ : Type} {B : Base} {h0 : H} {Γ : Ctx} {Λ : Own} {F : κ → Option Ent} {n : Nat} {ops : Array Oper} {a : Act} {w : World} {Q : Exit → Act → World → Prop}
theorem jC4 {id : Nat} (m : Nat) (hm : ops.size = m) (h : wpOpsIn (rdF ρ) 0 P ops Q (List.range' 0 m) a w) : (Code.region id ops false).wpK ρ P Q a w := by
 subst hm
 refine wpIn_region ?_
 rwa [List.range_eq_range']
theorem qX1 {i : Nat} (h : Q .normal a w) : wpOpsIn (rdF ρ) 0 P ops Q (List.range' i 0) a w := h
theorem jL4 (i k m' : Nat) {m : Nat} (hm : m = k + m') (sp : List OS) (l₀ m₀ : List Nat) (hAt : At B h0 Γ Λ F n a w)
  (hobl : qQx P sp ((ops.toList.drop i).take k) Γ Λ ((ops.toList.drop i).take k) sp)
  (hchk : (chk Γ Λ false ((ops.toList.drop i).take k) sp && jBj n ((ops.toList.drop i).take k) && jM0 ops.toList && Nat.ble (i + k) ops.toList.length) = true)
  (hnext : ∀ a w, At B h0 (mkG (jMp (jMm Γ ((ops.toList.drop i).take k) sp) l₀)) (mkO (jLt (jMt Λ ((ops.toList.drop i).take k) sp) m₀)) F n a w → wpOpsIn (rdF ρ) 0 P ops Q (List.range' (i + k) m') a w) :
  wpOpsIn (rdF ρ) 0 P ops Q (List.range' i m) a w := by
 simp only [Bool.and_eq_true, Nat.ble_eq] at hchk
 obtain ⟨⟨⟨hc, hs⟩, hng⟩, hle⟩ := hchk
 have hslots := jD9 hs
 generalize hl : (ops.toList.drop i).take k = ol at *
 have hlen := (jLq _ _ hobl).1
 have hk : ol.length = k := by rw [← hl, List.length_take, List.length_drop]; omega
 have hat : ∀ j, j < k → ol.toArray[j]? = ops[i + j]? := by
  intro j hj
  rw [← hl]
  simp only [List.getElem?_toArray, List.getElem?_take, hj, if_true, List.getElem?_drop, Array.getElem?_toList]
 have key : ∀ r j a w, j + r = k → J B h0 Γ Λ F n ol sp (fun x => Nat.blt x j) a w → wpOpsIn (rdF ρ) 0 P ops Q (List.range' (i + j) (r + m')) a w := by
  intro r
  induction r with
  | zero =>
   intro j a w hj hJ
   have hjk : j = k := by omega
   subst hjk
   rw [Nat.zero_add]
   refine hnext a w ((qK5 (ops := ol.toArray) hlen hJ ?_).pick _ _)
   intro j' o hj'
   have : j' < ol.length := by rw [jG2] at hj'; exact (List.getElem?_eq_some_iff.1 hj').1
   rw [Nat.blt_eq]; omega
  | succ r ih =>
   intro j a w hj hJ
   rw [show r + 1 + m' = (r + m') + 1 by omega, List.range'_succ, wpOpsIn_cons]
   have hjl : j < ol.length := by omega
   have hi : jHe ol j = some ol[j] := by rw [jG2]; simp [hjl]
   refine wpOpIn_mono (K := J B h0 Γ Λ F n ol sp (fun x => bif Nat.beq x j then true else Nat.blt x j)) ?_ (qXj (hat j (by omega)) (fun o ho => jRu hng (by rwa [Array.getElem?_toList])) (jTs (ops := ol.toArray) (draw := false) hobl hc hslots hi ?_ ?_ ?_ ?_ hJ))
   ·intro a w hJ'
    refine ih (j + 1) a w (by omega) (jL3 (fun x o _ => ?_) hJ')
    cases hb : Nat.beq x j with
    | true => rw [jWm] at hb; subst hb; simp [Nat.blt_eq]
    | false =>
     have : x ≠ j := fun e => by rw [jWm.2 e] at hb; cases hb
     simp only [cond_false]
     rw [Bool.eq_iff_iff, Nat.blt_eq, Nat.blt_eq]; omega
   ·rw [Bool.eq_false_iff, Ne, Nat.blt_eq]; omega
   ·intro x hx; simpa [numOf] using hx
   ·intro x o' _ hx
    simp only [numOf, cond_false, Nat.blt_eq] at hx
    rw [Bool.eq_false_iff, Ne, Nat.blt_eq]; omega
   ·intro x o' _ hx y hy
    simp only [numOf, cond_false, Nat.blt_eq] at hx hy ⊢
    omega
 rw [hm]
 exact key k 0 a w (by omega) (jL3 (fun j o _ => by rw [eq_comm, Bool.eq_false_iff, Ne, Nat.blt_eq]; omega) (jT5 hAt _ sp))
end
def qJf : List jX3 → KE → Prop
 | q :: r, p :: l => q undef p.2 ∧ qJf r l
 | [], [] => True
 | _, _ => False
def jQ {S : Type} (mk : S → Value → List jX3) : jX3 := fun v e => ∃ (s : S) (l : KE), qJf (mk s v) l ∧ jLk l = true ∧ jMh l ∧ e = jUu l
def qZd : List Nat → List jX3 → List (Nat × jX3)
 | k :: ks, q :: r => (k, q) :: qZd ks r
 | _, _ => []
def qWp : List Nat → KE → KE
 | k :: ks, p :: l => (k, p.2) :: qWp ks l
 | _, _ => []
def qUs : List jX3 → Prop
 | q :: r => Gh q ∧ qUs r
 | [] => True
theorem jR7 : ∀ {l : KE} {ks : List Nat} {p : Nat × Ent}, p ∈ qWp ks l → ∃ k, (k, p.2) ∈ l := by
 intro l
 induction l with
 | nil => intro ks p h; cases ks <;> cases h
 | cons x r ih =>
  intro ks p h
  cases ks with
  | nil => cases h
  | cons k ks =>
   rcases List.mem_cons.1 h with rfl | h
   ·exact ⟨x.1, List.mem_cons_self⟩
   ·obtain ⟨k', h'⟩ := ih h; exact ⟨k', List.mem_cons_of_mem _ h'⟩
theorem jCp {l : KE} {ks : List Nat} {c} (h : c ∈ (jUu (qWp ks l)).claims) : c ∈ (jUu l).claims := by
 obtain ⟨p, hp, hc⟩ := List.mem_flatMap.1 h
 obtain ⟨k, hk⟩ := jR7 hp
 exact List.mem_flatMap.2 ⟨_, hk, hc⟩
theorem qXn : ∀ {l : KE} {ks : List Nat}, jMh l → jMh (qWp ks l) := by
 intro l
 induction l with
 | nil => intro ks _; cases ks <;> exact List.Pairwise.nil
 | cons x r ih =>
  intro ks h
  cases ks with
  | nil => exact List.Pairwise.nil
  | cons k ks =>
   obtain ⟨h1, h2⟩ := List.pairwise_cons.1 h
   exact List.pairwise_cons.2 ⟨fun p hp => let ⟨k', hk'⟩ := jR7 hp; h1 (k', p.2) hk', ih h2⟩
theorem qK8 {k : Nat} : ∀ {qs : List jX3} {l : KE} {ks : List Nat}, qJf qs l → qUs qs → qs.length = ks.length →
  (lkO (qZd ks qs) k = none ∧ lkE (qWp ks l) k = none) ∨ ∃ q e, lkO (qZd ks qs) k = some q ∧ lkE (qWp ks l) k = some e ∧ q undef e ∧ Gh q := by
 intro qs
 induction qs with
 | nil => intro l ks hm _ hl; cases l with
  | nil => cases ks <;> exact .inl ⟨rfl, rfl⟩
  | cons => exact hm.elim
 | cons q qs ih =>
  intro l ks hm hg hl
  cases l with
  | nil => exact hm.elim
  | cons p l => cases ks with
   | nil => cases hl
   | cons k0 ks =>
    simp only [qZd, qWp, lkO, lkE]
    cases hb : Nat.beq k0 k with
    | true => exact .inr ⟨q, p.2, rfl, rfl, hm.1, hg.1⟩
    | false => exact ih hm.2 hg.2 (by simpa using hl)
section
variable {κ : Type} {B : Base} {h0 : H} {Γ : Ctx} {Λ : Own} {F : κ → Option Ent} {n : Nat} {a : Act} {w : World} {vM : Nat → Value} {pre : List (Nat × jX3)} {post : List Po}
theorem At.splitJQ {S : Type} {mk : S → Value → List jX3} (d : Nat) (ks : List Nat) (hlen : ∀ s v, (mk s v).length = ks.length) (hG : ∀ s v, qUs (mk s v)) (hAt : At B h0 Γ Λ F n a w) (hs : Λ d = some (jQ mk)) :
  ∃ s sv, At B h0 (fun k => bif Nat.beq d k then fIs sv else Γ k) (fun k => match lkO (qZd ks (mk s sv)) k with | some q => some q | none => bif Nat.beq d k then none else Λ k) F n a w := by
 obtain ⟨h, L, hle, hst, hOw, hsat, hsz, hdf⟩ := hAt
 obtain ⟨e, hL, s, l, hm, hnd, hdj, rfl⟩ := hOw d _ hs
 have hst1 := hst.swap (e' := jUu (qWp ks l)) hL (fun c hc => ⟨c, jCp hc, rfl, Nat.le_refl _⟩) (fun p hp => by
  obtain ⟨k, hk⟩ := jR7 hp
  exact (hst.own (k := Sum.inl d) hL).2 (k, p.2) hk)
 have hst2 := hst1.splitK (g := d) (l := qWp ks l) jDx (qXn hdj)
 refine ⟨s, a.gt d, h, _, hle, hst2, ?_, ?_, hsz, hdf⟩
 ·intro k q hq
  rcases qK8 (k := k) hm (hG s _) (hlen s _) with ⟨h1, h2⟩ | ⟨q', e, h1, h2, h3, h4⟩
  ·simp only [h1] at hq
   simp only [h2]
   cases hb : Nat.beq d k with
   | true => rw [hb] at hq; cases hq
   | false =>
    rw [hb] at hq
    have hne : k ≠ d := fun x => by rw [jWm.2 x.symm] at hb; cases hb
    obtain ⟨e, h5, h6⟩ := hOw k q hq
    exact ⟨e, by rw [if_neg hne]; simp [set1, hne, h5], h6⟩
  ·simp only [h1] at hq
   cases hq
   simp only [h2]
   exact ⟨e, rfl, h4 _ _ _ h3⟩
 ·intro k
  cases hb : Nat.beq d k with
  | true => simp only [cond_true, hb]; rw [jWm] at hb; subst hb; exact rfl
  | false => simp only [cond_false, hb]; exact hsat k
def jTv (Λ : Own) : List Nat → List jX3 → Prop
 | k :: ks, q :: r => Λ k = some q ∧ Gh q ∧ jTv Λ ks r
 | [], [] => True
 | _, _ => False
def jBc (ks : List Nat) : List (Nat × jX3) → Bool
 | [] => true
 | (k, _) :: r => !(has ks k) && !(Nat.beq k 9999) && jBc ks r
theorem jH9 {ks : List Nat} : ∀ {l : List (Nat × jX3)}, jBc ks l = true → ∀ k q, (k, q) ∈ l → has ks k = false ∧ k ≠ 9999 := by
 intro l
 induction l with
 | nil => intro _ k q h; cases h
 | cons x r ih =>
  intro h k q hk
  obtain ⟨k0, q0⟩ := x
  simp only [jBc, Bool.and_eq_true, Bool.not_eq_true'] at h
  rcases List.mem_cons.1 hk with h1 | h1
  ·cases h1
   exact ⟨h.1.1, fun x => by rw [jWm.2 x] at h; exact absurd h.1.2 (by simp)⟩
  ·exact ih h.2 k q h1
theorem jCa {L : Nat → Option Ent} (hOw : jC9 Λ L a) : ∀ {ks : List Nat} {qs : List jX3}, jTv Λ ks qs → jUk ks = true → ∃ l : KE, qJf qs l ∧ jLk l = true ∧ (∀ p ∈ l, L p.1 = some p.2) ∧ ∀ k, has ks k = false → lkE l k = none := by
 intro ks
 induction ks with
 | nil => intro qs h _; cases qs with
  | nil => exact ⟨[], trivial, rfl, ⟨(fun p hp => absurd hp List.not_mem_nil), fun _ _ => rfl⟩⟩
  | cons => exact h.elim
 | cons k ks ih =>
  intro qs h hn
  cases qs with
  | nil => exact h.elim
  | cons q qs =>
   obtain ⟨h1, h2, h3⟩ := h
   simp only [jUk, Bool.and_eq_true, Bool.not_eq_true'] at hn
   obtain ⟨l, g1, g2, g3, g4⟩ := ih h3 hn.2
   obtain ⟨e, he, hq⟩ := hOw k q h1
   refine ⟨(k, e) :: l, ⟨h2 _ _ _ hq, g1⟩, ?_, ?_, ?_⟩
   ·simp only [jLk, g4 k hn.1, Option.isSome_none, Bool.not_false, Bool.true_and]; exact g2
   ·intro p hp
    rcases List.mem_cons.1 hp with rfl | hp
    ·exact he
    ·exact g3 p hp
   ·intro k' hk'
    simp only [has, Bool.or_eq_false_iff] at hk'
    simp only [lkE, hk'.1, cond_false]
    exact g4 k' hk'.2
theorem qYa {fn : Func} {S : Type} {mk : S → Value → List jX3} {R : Nat} {sv : Value} (s : S) (ks : List Nat) {rv : ResultVar} {g : jJa} (hr : fn.results = #[.tmp R, rv]) (hR : Γ R = fIs sv) (hks : jTv Λ ks (mk s sv)) (hn : (jUk ks && jBc ks pre) = true) (h1 : qJg P Γ Λ rv g)
  (hA : PostA Γ Λ vM pre post) (hAt : At B h0 Γ Λ F n a w) : jH4 P fn B h0 F vM pre post (some (tupE (jQ mk))) (fT2 jJa.triv g) .ret a w := by
 obtain ⟨h, L, hl, hst, hOw, hsat, _, hdf⟩ := hAt
 rw [Bool.and_eq_true] at hn
 obtain ⟨l, g1, g2, g3, g4⟩ := jCa hOw hks hn.1
 obtain ⟨v, hv, hp⟩ := h1 _ B F h a w L hst hOw hsat
 have hRv := hsat R
 rw [hR] at hRv
 have hRv : a.gt R = sv := hRv
 have hv0 : (resV a.tmps (.tmp R)).run P w = .ok (a.gt R) w := rfl
 refine fun hB => .inl ⟨hdf.trans hB, .tuple #[a.gt R, v], ?_, _, h, _, rfl, hl, hst.jUu 9999 g3, hA.ok hOw hsat (fun k q hm => ?_), ⟨jUu l, if_pos rfl, a.gt R, v, rfl, s, l, by rw [hRv]; exact g1, g2, jN0 hst g3 g2, rfl⟩, _, _, rfl, trivial, hp⟩
 ·rw [jKw]; simp [hr, hv, hv0]
 ·obtain ⟨a1, a2⟩ := jH9 hn.2 k q hm
  simp only [if_neg a2, g4 k a1]; rfl
theorem qYh {fn : Func} {S : Type} {mk : S → Value → List jX3} {R : Nat} {sv : Value} (s : S) (ks : List Nat) (hr : fn.results = #[.tmp R]) (hR : Γ R = fIs sv) (hks : jTv Λ ks (mk s sv)) (hn : (jUk ks && jBc ks pre) = true)
  (hA : PostA Γ Λ vM pre post) (hAt : At B h0 Γ Λ F n a w) : jH4 P fn B h0 F vM pre post (some (jQ mk)) jJa.triv .ret a w := by
 obtain ⟨h, L, hl, hst, hOw, hsat, _, hdf⟩ := hAt
 rw [Bool.and_eq_true] at hn
 obtain ⟨l, g1, g2, g3, g4⟩ := jCa hOw hks hn.1
 have hRv := hsat R
 rw [hR] at hRv
 have hRv : a.gt R = sv := hRv
 have hv0 : (resV a.tmps (.tmp R)).run P w = .ok (a.gt R) w := rfl
 refine fun hB => .inl ⟨hdf.trans hB, a.gt R, ?_, _, h, _, rfl, hl, hst.jUu 9999 g3, hA.ok hOw hsat (fun k q hm => ?_), ⟨jUu l, if_pos rfl, s, l, by rw [hRv]; exact g1, g2, jN0 hst g3 g2, rfl⟩, trivial⟩
 ·rw [jKw]; simp [hr, hv0]
 ·obtain ⟨a1, a2⟩ := jH9 hn.2 k q hm
  simp only [if_neg a2, g4 k a1]; rfl
end
theorem jW0 {sv sm : Value} {T T' : TypeId} {r : Rep α} {ts : List jJ4} {s off : Nat} {x : Operand} {y : α} {get : α → Value} {set : α → Value → α} (l : Lens r Rep.rawM off get set) (t : jKu P T Rep.rawM) (ho : o.op = .load T x) (hx : jJ9 N x (jZg sv off)) (hg : get y = sm) :
  jXg P o N [(s, atV (jJ6 T' r y ts) sv)] (fIs sm) [] := by
 subst hg
 exact jXg.out (f := fV Rep.rawM (get y)) rfl (fun _ _ _ hp => jAp (z := .map none) (hz := rfl) hp) (jQ4 l t ho hx)
def jMd {A C R : Type} (v : Option A × C) (f : C → Option R) (g : A → C → Option R) : Option R := match v with
 | (none, e) => f e
 | (some x, e) => g x e
theorem spN {A C R : Type} {f : C → Option R} {g : A → C → Option R} {e : C} {r : R} (H : jMd (none, e) f g = some r) : f e = some r := H
theorem spS {A C R : Type} {f : C → Option R} {g : A → C → Option R} {x : A} {e : C} {r : R} (H : jMd (some x, e) f g = some r) : g x e = some r := H
theorem qQf {T : TypeId} {r : Rep α} {ts : List jJ4} {x : Operand} {y : α} {d : Nat} (hd : o.dst = some d) (ho : o.op = .box T x) (hx : jJ9 N x (fVN r y ts)) : jXg P o N [] jJa.triv [(d, some (jJ6 T r y ts))] := by
 intro κ B F L h a w hst hn _ hdn next Q hnext _
 obtain ⟨cs, hr, hv, hz⟩ := hx h a hn
 unfold Oper.wpK
 have : (execOp a.eval o).run P w = .ok (.value (.pointer (some ⟨w.heap.size, 0, none⟩))) (w.alloc (.cells cs.toArray T)) := by
  simp [execOp, ho, Instr.box, hv, jBh hr]
 rw [this]
 refine hnext _ h _ (set1 L d (jV9 w.heap.size T r y (jNp ts))) (Hle.refl h) trivial (hst.own_new _ d _ ?_ ⟨⟨_, jBy _ _, hr, hz.at⟩, fun u hu => by rw [(jLb hu).1]; trivial⟩) ?_
 ·intro c hc
  have : c ∈ (w.heap.size, 0) :: qQ1 (jNp ts) := hc
  rw [jM3] at this
  simp at this; rw [this]
 rw [hd]
 exact jW5 ⟨_, _, jQe (hdn d hd), jLh ts, jM2 _ ts, rfl⟩
theorem At.mapVal {κ : Type} {B : Base} {h0 : H} {Γ : Ctx} {Λ : Own} {F : κ → Option Ent} {n : Nat} {a : Act} {w : World} {f : α → Value} {rv : Rep β} {l : List (α × β)} (s g : Nat) (hsg : Nat.beq s g = false) (hAt : At B h0 Γ Λ F n a w) (hs : Λ s = some (jJ0 f rv l)) :
  ∃ sv, At B h0 (fun k => bif Nat.beq s k then fV Rep.rawM sv else Γ k) (fun k => bif Nat.beq g k then some (atV (jJ0 f rv l) sv) else bif Nat.beq s k then none else Λ k) F n a w := by
 obtain ⟨sv, h, L, hle, hst, hOw, hsat, hsz, hdf⟩ := hAt.toVal s g hsg hs
 refine ⟨sv, h, L, hle, hst, hOw, ?_, hsz, hdf⟩
 obtain ⟨e, hL, b, hv, _⟩ := hOw g (atV (jJ0 f rv l) sv) (by simp [Nat.beq_refl])
 intro k
 have := hsat k
 cases hb : Nat.beq s k with
 | true =>
  simp only [hb, cond_true] at this ⊢
  have hg : a.gt k = sv := this
  exact ⟨[sv], ⟨rfl, by rw [hv]; rfl⟩, by rw [hg]; rfl⟩
 | false => simp only [hb, cond_false] at this ⊢; exact this
theorem iteN {A : Type} {g : Bool} {a : Option A} {b v : A} (hg : ¬ g = true) (h : (bif g then a else some b) = some v) : b = v := by
 cases g
 ·exact Option.some.inj h
 ·exact absurd rfl hg
theorem opdNF : jJ9 N (.const .nilFunc) (fV Rep.fnum none) := fun _ _ _ => jSj.2 rfl
def jRj {A R : Type} (v : A × Option Nat) (f : A → Option R) (g : A → Option R) : Option R := match v with
 | (x, none) => f x
 | (x, some k) => bif decide (0 = k) then g x else none
theorem sjN {A R : Type} {f g : A → Option R} {x : A} {r : R} (H : jRj (x, none) f g = some r) : f x = some r := H
theorem sjS {A R : Type} {f g : A → Option R} {x : A} {k : Nat} {r : R} (H : jRj (x, some k) f g = some r) : 0 = k ∧ g x = some r := by
 unfold jRj at H
 by_cases hk : 0 = k
 ·simp only [hk, decide_true, cond_true] at H; exact ⟨hk, H⟩
 ·simp only [hk, decide_false, cond_false] at H; cases H
end Go.KB
namespace Go.KB
variable {P : Program} {o : Oper} {N : List (Nat × jJa)} {α β ρ : Type}
section
variable {κ : Type} {B : Base} {h : H} {L : Nat → Option Ent} {F : κ → Option Ent} {w : World}
end
section
variable {κ : Type} {B : Base} {h0 : H} {Γ : Ctx} {Λ : Own} {F : κ → Option Ent} {n : Nat} {a : Act} {w : World}
end
end Go.KB
namespace Go.KB
variable {P : Program} {o : Oper} {N : List (Nat × jJa)} {α β : Type}
theorem qVy {P : Program} {o : Oper} {N : List (Nat × jJa)} {q : jX3} {s d : Nat} (hsd : Nat.beq s d = false) (hd : o.dst = some d) (ho : o.op = .extract (.tmp s) 0) : jXg P o N [(s, qQm q)] jJa.triv [(s, none), (d, some q)] := by
 intro κ B F L h a w hst hn hk hdn next Q hnext _
 obtain ⟨e, hL, x, y, z, hv, hq⟩ := hk.1
 have hne : s ≠ d := fun x => by rw [jWm.2 x] at hsd; cases hsd
 have hv' : a.eval (.tmp s) = .tuple #[x, y, z] := hv
 unfold Oper.wpK
 have : (execOp a.eval o).run P w = .ok (.value x) w := by simp [execOp, ho, hv', Instr.extract]
 rw [this]
 refine hnext _ h w _ (Hle.refl h) trivial (hst.mv s d) ?_
 rw [hd]
 exact jPe hne hL (by rw [jQe (hdn d hd)]; exact hq)
end Go.KB
namespace Go.KB
variable {P : Program} {o : Oper} {N : List (Nat × jJa)} {α β ρ : Type}
section
variable {κ : Type} {B : Base} {h0 : H} {Γ : Ctx} {Λ : Own} {F : κ → Option Ent} {n : Nat} {a : Act} {w : World}
end
theorem Gh.row {sv : Value} {E : TypeId} {r : Rep α} {xs : List α} : Gh (rowG sv E r xs) := fun _ _ _ h => h
theorem jUg.gr {xs : List Operand} {k g : Nat} {E : TypeId} {q : Rep α} {ys : List α} {sv : Value} {p : Po} {r ps gs} (e : (Nat.ble 5000 k, p.nt) = (true, true)) (h : jUg N xs r ps gs) : jUg N xs ((k, rowG sv E q ys) :: r) (p :: ps) (g :: gs) := .gh (congrArg Prod.fst e) Gh.row (fun q' h2 => by have := congrArg Prod.snd e; rw [h2] at this; cases this) h
theorem jCy {T E : TypeId} {r : Rep β} {n d : Nat} {parts : Array (Nat × Operand)} {ys : List β} (t : jKu P E r) (hT : P.underlying T = some (.slice E)) (hsz : Nat.ble (n * r.sz) (2 ^ 24) = true) (hd : o.dst = some d) (ho : o.op = .buildSlice T n parts)
  (k : jDs P N (fun i => some (i * r.sz, r.sz)) (r.arr n) parts.toList (List.replicate n r.zero) ys) : jXg P o N [] jJa.triv [(d, some (jW8 E r ys))] := by
 intro κ B F L h a w hst hn _ hdn next Q hnext _
 obtain ⟨cs, hr, hl, hrun⟩ := run_buildSlice w t hT (Nat.le_of_ble_eq_true hsz) k hn
 unfold Oper.wpK
 have : (execOp a.eval o).run P w = .ok (.value (.slice (some ⟨w.heap.size, 0, none⟩) n n)) (w.alloc (.cells cs.toArray E)) := by
  simp only [execOp, ho, Sem.run_bind, hrun, Result.andThen_ok, Sem.run_pure]
 rw [this]
 refine hnext _ h _ (set1 L d (jUb w.heap.size E r ys n)) (Hle.refl h) trivial (hst.own_new _ d _ (by intro c hc; simp [jUb] at hc; rw [hc]) ⟨cs, [], by rw [List.append_nil]; exact jBy _ _, hr, by rw [List.append_nil, hr.len, hl]⟩) ?_
 rw [hd]
 exact jW5 (.inr ⟨_, n, by rw [jQe (hdn d hd), hl], by rw [hl]; exact Nat.le_refl _, rfl⟩)
end Go.KB
namespace Go.KB
variable {P : Program} {α β : Type}
section
variable {ρ : Option Nat} {κ : Type} {B : Base} {h0 : H} {Γ : Ctx} {Λ : Own} {F : κ → Option Ent} {n : Nat} {a : Act} {w : World} {vM : Nat → Value} {pre : List (Nat × jX3)} {post : List Po}
theorem qY7 {fn : Func} {S : Type} {mk : S → Value → List jX3} {R : Nat} {sv : Value} (s : S) (ks : List Nat) {rv rv' : ResultVar} {g g' : jJa} (hr : fn.results = #[.tmp R, rv, rv']) (hR : Γ R = fIs sv) (hks : jTv Λ ks (mk s sv)) (hn : (jUk ks && jBc ks pre) = true) (h1 : qJg P Γ Λ rv g) (h2 : qJg P Γ Λ rv' g')
  (hA : PostA Γ Λ vM pre post) (hAt : At B h0 Γ Λ F n a w) : jH4 P fn B h0 F vM pre post (some (qQm (jQ mk))) (fT3 jJa.triv g g') .ret a w := by
 obtain ⟨h, L, hl, hst, hOw, hsat, _, hdf⟩ := hAt
 rw [Bool.and_eq_true] at hn
 obtain ⟨l, g1, g2, g3, g4⟩ := jCa hOw hks hn.1
 obtain ⟨v, hv, hp⟩ := h1 _ B F h a w L hst hOw hsat
 obtain ⟨v', hv', hp'⟩ := h2 _ B F h a w L hst hOw hsat
 have hRv := hsat R
 rw [hR] at hRv
 have hRv : a.gt R = sv := hRv
 have hv0 : (resV a.tmps (.tmp R)).run P w = .ok (a.gt R) w := rfl
 refine fun hB => .inl ⟨hdf.trans hB, Value.tuple #[a.gt R, v, v'], ?_, _, h, _, rfl, hl, hst.jUu 9999 g3, hA.ok hOw hsat (fun k q hm => ?_), ⟨jUu l, if_pos rfl, a.gt R, v, v', rfl, s, l, by rw [hRv]; exact g1, g2, jN0 hst g3 g2, rfl⟩, _, _, _, rfl, trivial, hp, hp'⟩
 ·rw [jKw]; simp [hr, hv, hv', hv0]
 ·obtain ⟨a1, a2⟩ := jH9 hn.2 k q hm
  simp only [if_neg a2, g4 k a1]; rfl
end
end Go.KB
