/- Variables whose fields are rows that are appended to. Fields of values; values whose fields are nil, and variables that take them. Maps that are owned: made, looked into, written. Pointers that are only read, nil among them; texts as rows of bytes. Functions that take a row over and hand a row back. Rows that grow from nothing: cap, cuts and appends of zeros at nil. Arrays: slices of arrays that are not written any more, elements of arrays. No condition. -/
import Derived.Test.YtcoggcadlinmdaaGreatDoorKZb
import Derived.MapKept
import Derived.Laws.Pointers
import Derived.Lib.ConvBytes
import Derived.Lib.AppendZeros
namespace Go.KB
variable {P : Program} {o : Oper} {N : List (Nat × jJd)} {f : jJd} {α β : Type}
inductive Wr where
 | slot
 | val (sv : Value)
def atV (q : jZr) (sv : Value) : jZr := fun _ e => q sv e
def Wr.ap (W : Wr) (q : jZr) : jZr := match W with | .slot => q | .val sv => atV q sv
def Wr.v (W : Wr) (a : Act) (g : Nat) : Value := match W with | .slot => a.gt g | .val sv => sv
theorem Wr.iff {W : Wr} {q : jZr} {a : Act} {g : Nat} {e : Ent} : W.ap q (a.gt g) e ↔ q (W.v a g) e := by cases W <;> rfl
def OpdW (N : List (Nat × jJd)) (x : Operand) (W : Wr) (g : Nat) : Prop := ∀ h a, jRa N h a → a.eval x = W.v a g
theorem OpdW.slot {x : Operand} {g : Nat} (hx : jQf N x (fCp g)) : OpdW N x .slot g := fun h a n => hx h a n
theorem OpdW.val {x : Operand} {g : Nat} {sv : Value} (hx : jQf N x (fIs sv)) : OpdW N x (.val sv) g := fun h a n => hx h a n
theorem Wr.v_put {W : Wr} {a : Act} {s d : Nat} {v : Value} (h : s ≠ d) : W.v (a.put (some d) v) s = W.v a s := by
 cases W with
 | slot => exact jBu h
 | val sv => rfl
def qG4 (N : List (Nat × jJd)) (x : Operand) (W : Wr) (s off : Nat) : Prop := ∀ h a, jRa N h a → ∃ b, W.v a s = .pointer (some ⟨b, 0, none⟩) ∧ a.eval x = .pointer (some ⟨b, off, none⟩)
def jP3 (sv : Value) (off : Nat) : jJd := ⟨none, fun _ _ v => ∃ b, sv = .pointer (some ⟨b, 0, none⟩) ∧ v = .pointer (some ⟨b, off, none⟩), fun _ x => x⟩
theorem qG4.slot {x : Operand} {s off : Nat} (hx : jQf N x (jZ7 s off)) : qG4 N x .slot s off := fun h a n => hx h a n
theorem qG4.val {x : Operand} {s off : Nat} {sv : Value} (hx : jQf N x (jP3 sv off)) : qG4 N x (.val sv) s off := fun h a n => hx h a n
structure jQb where
 off : Nat
 E : TypeId
 sz : Nat
def jYf : List jQb → List (Nat × Value × Ent) → Prop
 | [], [] => True
 | t :: ts, u :: us => (u.1 = t.off ∧ jVv t.E t.sz u.2.1 u.2.2) ∧ jYf ts us
 | _, _ => False
theorem jYf.mid {t : jQb} {l2 : List jQb} : ∀ {l1 : List jQb} {us : List (Nat × Value × Ent)}, jYf (l1 ++ t :: l2) us →
  ∃ us1 u us2, us = us1 ++ u :: us2 ∧ u.1 = t.off ∧ jVv t.E t.sz u.2.1 u.2.2 ∧ jYf l1 us1 ∧ jYf l2 us2 := by
 intro l1
 induction l1 with
 | nil =>
  intro us h
  cases us with
  | nil => exact h.elim
  | cons u us => exact ⟨[], u, us, rfl, h.1.1, h.1.2, trivial, h.2⟩
 | cons t1 l1 ih =>
  intro us h
  cases us with
  | nil => exact h.elim
  | cons u0 us =>
   obtain ⟨us1, u, us2, rfl, h1, h2, h3, h4⟩ := ih h.2
   exact ⟨u0 :: us1, u, us2, rfl, h1, h2, ⟨h.1, h3⟩, h4⟩
theorem jYf.app {l2 : List jQb} {us2 : List (Nat × Value × Ent)} (h2 : jYf l2 us2) : ∀ {l1 : List jQb} {us1 : List (Nat × Value × Ent)}, jYf l1 us1 → jYf (l1 ++ l2) (us1 ++ us2) := by
 intro l1
 induction l1 with
 | nil =>
  intro us1 h
  cases us1 with
  | nil => exact h2
  | cons u us => exact h.elim
 | cons t1 l1 ih =>
  intro us1 h
  cases us1 with
  | nil => exact h.elim
  | cons u0 us => exact ⟨h.1, ih h.2⟩
theorem jYf.offs : ∀ {l : List jQb} {us : List (Nat × Value × Ent)}, jYf l us → ∀ u ∈ us, ∃ t ∈ l, u.1 = t.off := by
 intro l
 induction l with
 | nil =>
  intro us h u hu
  cases us with
  | nil => cases hu
  | cons _ _ => exact h.elim
 | cons t l ih =>
  intro us h u hu
  cases us with
  | nil => exact h.elim
  | cons u0 us =>
   rcases List.mem_cons.1 hu with rfl | hu
   ·exact ⟨t, List.mem_cons_self, h.1.1⟩
   ·obtain ⟨t', ht', e⟩ := ih h.2 u hu
    exact ⟨t', List.mem_cons_of_mem _ ht', e⟩
theorem jYf.cut {l2 : List jQb} : ∀ {l1 : List jQb} {us : List (Nat × Value × Ent)}, jYf (l1 ++ l2) us → ∃ us1 us2, us = us1 ++ us2 ∧ jYf l1 us1 ∧ jYf l2 us2 := by
 intro l1
 induction l1 with
 | nil => intro us h; exact ⟨[], us, rfl, trivial, h⟩
 | cons t1 l1 ih =>
  intro us h
  cases us with
  | nil => exact h.elim
  | cons u0 us =>
   obtain ⟨us1, us2, rfl, h3, h4⟩ := ih h.2
   exact ⟨u0 :: us1, us2, rfl, ⟨h.1, h3⟩, h4⟩
def Disj (a b : List (Nat × Nat)) : Prop := ∀ c ∈ a, ∀ c' ∈ b, c.1 ≠ c'.1
def BoxOk (b : Nat) (us : List (Nat × Value × Ent)) : Prop := (us.map (fun u => u.2.2.claims)).Pairwise Disj ∧ ∀ u ∈ us, ∀ c ∈ u.2.2.claims, c.1 ≠ b
def qYh (us : List (Nat × Value × Ent)) : List (Nat × Nat) := us.flatMap (fun u => u.2.2.claims)
def jWk (b : Nat) (T : TypeId) (r : Rep α) (x : α) (us : List (Nat × Value × Ent)) : Ent where
 claims := (b, 0) :: qYh us
 ok := fun h m => (∃ cs, m b = some (.cells cs.toArray T (0, 0)) ∧ r.rel h cs x ∧ ∀ u ∈ us, cs[u.1]? = some u.2.1) ∧ ∀ u ∈ us, u.2.2.ok h m
 mono := by
  intro h h' m hl ⟨⟨cs, e, k, l⟩, q⟩
  exact ⟨⟨cs, e, r.mono hl k, l⟩, fun u hu => u.2.2.mono hl (q u hu)⟩
 frame := by
  intro h m m' hm ⟨⟨cs, e, k, l⟩, q⟩
  refine ⟨⟨cs, by rw [hm (b, 0) (by simp)]; exact e, k, l⟩, fun u hu => u.2.2.frame (fun c hc => hm c ?_) (q u hu)⟩
  exact List.mem_cons_of_mem _ (List.mem_flatMap.2 ⟨u, hu, hc⟩)
def jQm (T : TypeId) (r : Rep α) (x : α) (ts : List jQb) : jZr := fun v e => ∃ b us, v = .pointer (some ⟨b, 0, none⟩) ∧ jYf ts us ∧ BoxOk b us ∧ e = jWk b T r x us
theorem St.split2 {κ : Type} {B : Base} {h : H} {L : Nat → Option Ent} {F : κ → Option Ent} {w : World} (hst : St B h (Sum.elim L F) w) {s d : Nat} {e e1 e2 : Ent} (hL : L s = some e) (_ : s ≠ d)
    (h1 : ∀ c ∈ e1.claims, c ∈ e.claims) (h2 : ∀ c ∈ e2.claims, c ∈ e.claims) (hd : Disj e1.claims e2.claims) (k1 : e1.ok h (World.mem w)) (k2 : e2.ok h (World.mem w)) :
    St B h (Sum.elim (set1 (set1 L s e1) d e2) F) w := by
  obtain ⟨hcl, _⟩ := hst.own (k := Sum.inl s) hL
  have hval : ∀ k e', set1 (set1 L s e1) d e2 k = some e' → (k = d ∧ e' = e2) ∨ (k = s ∧ e' = e1) ∨ (k ≠ s ∧ k ≠ d ∧ L k = some e') := by
    intro k e' hk
    unfold set1 at hk
    split at hk
    · rename_i hkd; exact .inl ⟨hkd, (Option.some.inj hk).symm⟩
    · rename_i hkd
      split at hk
      · rename_i hks; exact .inr (.inl ⟨hks, (Option.some.inj hk).symm⟩)
      · rename_i hks; exact .inr (.inr ⟨hks, hkd, hk⟩)
  refine ⟨hst.low, hst.base, fun x => hst.ext x, ?_, ?_, hst.mark, fun x i y => hst.nf x i y⟩
  · intro k e' hk
    cases k with
    | inr k => exact hst.own (k := Sum.inr k) hk
    | inl k =>
      rcases hval k e' hk with ⟨_, rfl⟩ | ⟨_, rfl⟩ | ⟨_, _, hk⟩
      · exact ⟨fun c hc => hcl c (h2 c hc), k2⟩
      · exact ⟨fun c hc => hcl c (h1 c hc), k1⟩
      · exact hst.own (k := Sum.inl k) hk
  · have other : ∀ (k : Nat ⊕ κ) e', Sum.elim L F k = some e' → k ≠ Sum.inl s → ∀ c ∈ e.claims, ∀ c' ∈ e'.claims, c.1 ≠ c'.1 := fun k e' hk hne => hst.disj (k := Sum.inl s) hL hk (Ne.symm hne)
    intro k k' a a' hk hk' hne c hc c' hc'
    cases k with
    | inr k =>
      cases k' with
      | inr k' => exact hst.disj (k := Sum.inr k) (k' := Sum.inr k') hk hk' hne c hc c' hc'
      | inl k' =>
        rcases hval k' a' hk' with ⟨_, rfl⟩ | ⟨_, rfl⟩ | ⟨h3, _, hk'⟩
        · exact (other (.inr k) a hk (by simp) c' (h2 _ hc') c hc).symm
        · exact (other (.inr k) a hk (by simp) c' (h1 _ hc') c hc).symm
        · exact hst.disj (k := Sum.inr k) (k' := Sum.inl k') hk hk' (by simp) c hc c' hc'
    | inl k =>
      cases k' with
      | inr k' =>
        rcases hval k a hk with ⟨_, rfl⟩ | ⟨_, rfl⟩ | ⟨h3, _, hk⟩
        · exact other (.inr k') a' hk' (by simp) c (h2 _ hc) c' hc'
        · exact other (.inr k') a' hk' (by simp) c (h1 _ hc) c' hc'
        · exact hst.disj (k := Sum.inl k) (k' := Sum.inr k') hk hk' (by simp) c hc c' hc'
      | inl k' =>
        have hne' : k ≠ k' := fun x => hne (by rw [x])
        rcases hval k a hk with ⟨e3, rfl⟩ | ⟨e3, rfl⟩ | ⟨h3, h4, hk2⟩ <;> rcases hval k' a' hk' with ⟨e4, rfl⟩ | ⟨e4, rfl⟩ | ⟨h5, h6, hk2'⟩
        · exact absurd (e3.trans e4.symm) hne'
        · exact (hd c' hc' c hc).symm
        · exact other (.inl k') a' hk2' (fun x => h5 (Sum.inl.inj x)) c (h2 _ hc) c' hc'
        · exact hd c hc c' hc'
        · exact absurd (e3.trans e4.symm) hne'
        · exact other (.inl k') a' hk2' (fun x => h5 (Sum.inl.inj x)) c (h1 _ hc) c' hc'
        · exact (other (.inl k) a hk2 (fun x => h3 (Sum.inl.inj x)) c' (h2 _ hc') c hc).symm
        · exact (other (.inl k) a hk2 (fun x => h3 (Sum.inl.inj x)) c' (h1 _ hc') c hc).symm
        · exact hst.disj (k := Sum.inl k) (k' := Sum.inl k') hk2 hk2' (fun x => hne' (Sum.inl.inj x)) c hc c' hc'
def jRf (L : Nat → Option Ent) (s d : Nat) (e : Ent) : Nat → Option Ent := fun k => if k = d then none else if k = s then some e else L k
theorem St.jRf {κ : Type} {B : Base} {h : H} {L : Nat → Option Ent} {F : κ → Option Ent} {w : World} (hst : St B h (Sum.elim L F) w) {s d : Nat} {e e1 e2 : Ent} (hL : L s = some e1) (hL2 : L d = some e2)
  (hc : ∀ c ∈ e.claims, c ∈ e1.claims ∨ c ∈ e2.claims) (ho : e.ok h (World.mem w)) : St B h (Sum.elim (jRf L s d e) F) w := by
 obtain ⟨hcl1, _⟩ := hst.own (k := Sum.inl s) hL
 obtain ⟨hcl2, _⟩ := hst.own (k := Sum.inl d) hL2
 have hval : ∀ k e', KB.jRf L s d e k = some e' → (k = s ∧ e' = e) ∨ (k ≠ s ∧ k ≠ d ∧ L k = some e') := by
  intro k e' hk
  unfold KB.jRf at hk
  split at hk
  ·cases hk
  ·rename_i hkd
   split at hk
   ·rename_i hks; exact .inl ⟨hks, (Option.some.inj hk).symm⟩
   ·rename_i hks; exact .inr ⟨hks, hkd, hk⟩
 refine ⟨hst.low, hst.base, fun x => hst.ext x, ?_, ?_, hst.mark, fun x i y => hst.nf x i y⟩
 ·intro k e' hk
  cases k with
  | inr k => exact hst.own (k := Sum.inr k) hk
  | inl k =>
   rcases hval k e' hk with ⟨_, rfl⟩ | ⟨_, _, hk⟩
   ·exact ⟨fun c hcc => (hc c hcc).elim (hcl1 c) (hcl2 c), ho⟩
   ·exact hst.own (k := Sum.inl k) hk
 ·have other : ∀ (k : Nat ⊕ κ) e', Sum.elim L F k = some e' → k ≠ Sum.inl s → k ≠ Sum.inl d → ∀ c ∈ e.claims, ∀ c' ∈ e'.claims, c.1 ≠ c'.1 := by
   intro k e' hk hn1 hn2 c hcc
   rcases hc c hcc with h1 | h1
   ·exact hst.disj (k := Sum.inl s) hL hk (Ne.symm hn1) c h1
   ·exact hst.disj (k := Sum.inl d) hL2 hk (Ne.symm hn2) c h1
  intro k k' a a' hk hk' hne c hcc c' hcc'
  cases k with
  | inr k =>
   cases k' with
   | inr k' => exact hst.disj (k := Sum.inr k) (k' := Sum.inr k') hk hk' hne c hcc c' hcc'
   | inl k' =>
    rcases hval k' a' hk' with ⟨_, rfl⟩ | ⟨h3, _, hk'⟩
    ·exact (other (.inr k) a hk (by simp) (by simp) c' hcc' c hcc).symm
    ·exact hst.disj (k := Sum.inr k) (k' := Sum.inl k') hk hk' (by simp) c hcc c' hcc'
  | inl k =>
   cases k' with
   | inr k' =>
    rcases hval k a hk with ⟨_, rfl⟩ | ⟨h3, _, hk⟩
    ·exact other (.inr k') a' hk' (by simp) (by simp) c hcc c' hcc'
    ·exact hst.disj (k := Sum.inl k) (k' := Sum.inr k') hk hk' (by simp) c hcc c' hcc'
   | inl k' =>
    have hne' : k ≠ k' := fun x => hne (by rw [x])
    rcases hval k a hk with ⟨e3, rfl⟩ | ⟨h3, h4, hk2⟩ <;> rcases hval k' a' hk' with ⟨e4, rfl⟩ | ⟨h5, h6, hk2'⟩
    ·exact absurd (e3.trans e4.symm) hne'
    ·exact other (.inl k') a' hk2' (fun x => h5 (Sum.inl.inj x)) (fun x => h6 (Sum.inl.inj x)) c hcc c' hcc'
    ·exact (other (.inl k) a hk2 (fun x => h3 (Sum.inl.inj x)) (fun x => h4 (Sum.inl.inj x)) c' hcc' c hcc).symm
    ·exact hst.disj (k := Sum.inl k) (k' := Sum.inl k') hk2 hk2' (fun x => hne' (Sum.inl.inj x)) c hcc c' hcc'
theorem jMc {κ : Type} {B : Base} {h : H} {L : Nat → Option Ent} {F : κ → Option Ent} {w : World} (hst : St B h (Sum.elim L F) w) {s b : Nat} {T : TypeId} {r : Rep α} {x : α} {us : List (Nat × Value × Ent)}
  (hk : L s = some (jWk b T r x us)) : (∃ cs, w.heap[b]? = some (.cells cs.toArray T (0, 0)) ∧ r.rel h cs x ∧ ∀ u ∈ us, cs[u.1]? = some u.2.1) ∧ ∀ u ∈ us, u.2.2.ok h (World.mem w) := (hst.own (k := Sum.inl s) hk).2
theorem jX9 {T T' : TypeId} {r : Rep α} {y : α} {ts : List jQb} {s i off : Nat} (hf : jQy P T i off) (ho : o.op = .fieldAddr T (.tmp s) i) : jXh P o N [(s, jQm T' r y ts)] (jZ7 s off) [] := by
 intro κ B F L h a w hst hn hk _ next Q hnext _
 obtain ⟨e, _, b, us, hv, _⟩ := hk.1
 unfold Oper.wpK
 have hv' : a.eval (.tmp s) = .pointer (some ⟨b, 0, none⟩) := hv
 have : (execOp a.eval o).run P w = .ok (.value (.pointer (some ⟨b, off, none⟩))) w := by simp [execOp, ho, hv', hf b 0 w]
 rw [this]
 exact hnext _ h w L (Hle.refl h) ⟨b, hv, rfl⟩ hst jWl
theorem jBd {T T' : TypeId} {r : Rep α} {y : α} {ts : List jQb} {s i off : Nat} {sv : Value} {x : Operand} (hf : jQy P T i off) (ho : o.op = .fieldAddr T x i) (hx : jQf N x (fIs sv)) : jXh P o N [(s, atV (jQm T' r y ts) sv)] (jP3 sv off) [] := by
 intro κ B F L h a w hst hn hk _ next Q hnext _
 obtain ⟨e, _, b, us, hv, _⟩ := hk.1
 have hv' : a.eval x = .pointer (some ⟨b, 0, none⟩) := (hx h a hn : a.eval x = sv).trans hv
 unfold Oper.wpK
 have : (execOp a.eval o).run P w = .ok (.value (.pointer (some ⟨b, off, none⟩))) w := by simp [execOp, ho, hv', hf b 0 w]
 rw [this]
 exact hnext _ h w L (Hle.refl h) ⟨b, hv, rfl⟩ hst jWl
theorem jQf.off0 {T' : TypeId} {r : Rep α} {y : α} {ts : List jQb} {sv : Value} {x : Operand} {h : H} {a : Act} {e : Ent} (hx : jQf N x (fIs sv)) (hn : jRa N h a) (hk : jQm T' r y ts sv e) : ∃ b, sv = .pointer (some ⟨b, 0, none⟩) ∧ a.eval x = .pointer (some ⟨b, 0, none⟩) := by
 obtain ⟨b, us, hv, _⟩ := hk
 exact ⟨b, hv, (hx h a hn : a.eval x = sv).trans hv⟩
theorem jFb {T T' : TypeId} {r : Rep α} {ts : List jQb} {s : Nat} {y : α} (t : jYk P T r) (ho : o.op = .load T (.tmp s)) :
  jXh P o N [(s, jQm T' r y ts)] (fV r y) [] := by
 intro κ B F L h a w hst hn hk _ next Q hnext _
 obtain ⟨e, hL, b, us, hv, _, _, rfl⟩ := hk.1
 have hv' : a.eval (.tmp s) = .pointer (some ⟨b, 0, none⟩) := hv
 obtain ⟨⟨cs, hb, hr, _⟩, _⟩ := jMc hst hL
 obtain ⟨c, hc, hrun⟩ := jUj t (Lens.refl r) hb hr
 unfold Oper.wpK
 have : (execOp a.eval o).run P w = .ok (.value (pack r.agg c)) w := by simp [execOp, ho, hv', hrun]
 rw [this]
 exact hnext _ h w L (Hle.refl h) ⟨c, hc, rfl⟩ hst jWl
theorem jZ3 {T T' : TypeId} {r : Rep α} {ts : List jQb} {s : Nat} {sv : Value} {y : α} {x : Operand} (t : jYk P T r) (ho : o.op = .load T x) (hx : jQf N x (fIs sv)) :
  jXh P o N [(s, atV (jQm T' r y ts) sv)] (fV r y) [] := by
 intro κ B F L h a w hst hn hk _ next Q hnext _
 obtain ⟨e, hL, b, us, hv, _, _, rfl⟩ := hk.1
 have hv' : a.eval x = .pointer (some ⟨b, 0, none⟩) := (hx h a hn : a.eval x = sv).trans hv
 obtain ⟨⟨cs, hb, hr, _⟩, _⟩ := jMc hst hL
 obtain ⟨c, hc, hrun⟩ := jUj t (Lens.refl r) hb hr
 unfold Oper.wpK
 have : (execOp a.eval o).run P w = .ok (.value (pack r.agg c)) w := by simp [execOp, ho, hv', hrun]
 rw [this]
 exact hnext _ h w L (Hle.refl h) ⟨c, hc, rfl⟩ hst jWl
def nilV : Value := .slice none 0 0
def jHr (cs : List Value) : List jQb → Prop
 | [] => True
 | t :: ts => cs[t.off]? = some nilV ∧ jHr cs ts
def jCw (ts : List jQb) : List (Nat × Value × Ent) := ts.map (fun t => (t.off, nilV, jFr))
theorem jRp : ∀ (ts : List jQb), jYf ts (jCw ts)
 | [] => trivial
 | _ :: ts => ⟨⟨rfl, .inl ⟨none, 0, rfl, rfl⟩⟩, jRp ts⟩
theorem jR7 {ts : List jQb} {u : Nat × Value × Ent} (hu : u ∈ jCw ts) : u.2.2 = jFr ∧ u.2.1 = nilV := by
 obtain ⟨t, _, rfl⟩ := List.mem_map.1 hu; exact ⟨rfl, rfl⟩
theorem jCb (b : Nat) : ∀ (ts : List jQb), BoxOk b (jCw ts)
 | [] => ⟨List.Pairwise.nil, fun u hu => by cases hu⟩
 | t :: ts => ⟨List.Pairwise.cons (fun l _ c hc => by cases hc) (jCb b ts).1, fun u hu c hc => by rw [(jR7 hu).1] at hc; cases hc⟩
theorem jCl : ∀ (ts : List jQb), qYh (jCw ts) = []
 | [] => rfl
 | _ :: ts => jCl ts
theorem jHr.at {cs : List Value} : ∀ {ts : List jQb}, jHr cs ts → ∀ u ∈ jCw ts, cs[u.1]? = some u.2.1 := by
 intro ts
 induction ts with
 | nil => intro _ u hu; cases hu
 | cons t ts ih =>
  intro h u hu
  rcases List.mem_cons.1 hu with rfl | hu
  ·exact h.1
  ·exact ih h.2 u hu
theorem jLu {T : TypeId} {r : Rep α} {d : Nat} (ts : List jQb) (t : jYk P T r) (hz : jHr r.zc ts) (hd : o.dst = some d) (ho : o.op = .alloc T) : jXh P o N [] jJd.triv [(d, some (jQm T r r.zero ts))] := by
 intro κ B F L h a w hst hn _ hdn next Q hnext _
 unfold Oper.wpK
 have : (execOp a.eval o).run P w = .ok (.value (.pointer (some ⟨w.heap.size, 0, none⟩))) (w.alloc (.cells r.zc.toArray T)) := by
  simp [execOp, ho, Instr.alloc, t.zero, jL9 (r.zrel h)]
 rw [this]
 refine hnext _ h _ (set1 L d (jWk w.heap.size T r r.zero (jCw ts))) (Hle.refl h) trivial (hst.own_new _ d _ ?_ ⟨⟨_, jHw _ _, r.zrel h, hz.at⟩, fun u hu => by rw [(jR7 hu).1]; trivial⟩) ?_
 ·intro c hc
  have : c ∈ (w.heap.size, 0) :: qYh (jCw ts) := hc
  rw [jCl] at this
  simp at this; rw [this]
 rw [hd]
 exact jVg ⟨_, _, jQc (hdn d hd), jRp ts, jCb _ ts, rfl⟩
def apartB (off sz : Nat) (ts : List jQb) : Bool := ts.all (fun t => Nat.blt t.off off || Nat.ble (off + sz) t.off)
theorem jM6 {off sz : Nat} {ts : List jQb} (h : apartB off sz ts = true) : ∀ t ∈ ts, t.off < off ∨ off + sz ≤ t.off := by
 intro t ht
 have := List.all_eq_true.1 h t ht
 simpa [Nat.blt_eq] using this
theorem jC9 {p c c' q : List Value} {off sz i : Nat} (hp : p.length = off) (hc : c.length = sz) (hc' : c'.length = sz) (h : i < off ∨ off + sz ≤ i) : (p ++ c' ++ q)[i]? = (p ++ c ++ q)[i]? := by
  rcases h with h | h
  · rw [List.append_assoc, List.append_assoc, List.getElem?_append_left (by omega), List.getElem?_append_left (by omega)]
  · rw [List.getElem?_append_right (by simp; omega), List.getElem?_append_right (by simp; omega)]
    congr 1; simp; omega
theorem qWw {h : H} {w w' : World} {b : Nat} {us : List (Nat × Value × Ent)} (hbo : BoxOk b us) (hw : ∀ i, i ≠ b → w'.heap[i]? = w.heap[i]?) (h2 : ∀ u ∈ us, u.2.2.ok h (World.mem w)) : ∀ u ∈ us, u.2.2.ok h (World.mem w') :=
 fun u hu => u.2.2.frame (fun c hc => hw c.1 (hbo.2 u hu c hc)) (h2 u hu)
theorem BoxOk.sub {b : Nat} {us us' : List (Nat × Value × Ent)} (h : us'.Sublist us) (hb : BoxOk b us) : BoxOk b us' :=
 ⟨hb.1.sublist (h.map _), fun u hu => hb.2 u (h.subset hu)⟩
theorem qXz {us us' : List (Nat × Value × Ent)} (h : us'.Sublist us) : ∀ c ∈ qYh us', c ∈ qYh us := by
 intro c hc
 obtain ⟨u, hu, hcu⟩ := List.mem_flatMap.1 hc
 exact List.mem_flatMap.2 ⟨u, h.subset hu, hcu⟩
theorem jPg {T T' : TypeId} {r : Rep α} {q : Rep β} {off : Nat} {y : α} {z : β} {get : α → β} {set : α → β → α} (l : Lens r q off get set) (t : jYk P T q) {κ : Type} {B : Base} {F : κ → Option Ent} {L : Nat → Option Ent} {h : H} {w : World} {s b : Nat} {us us' : List (Nat × Value × Ent)}
  (hst : St B h (Sum.elim L F) w) (hL : L s = some (jWk b T' r y us)) (hbo : BoxOk b us) (hsub : us'.Sublist us) (hap : ∀ u ∈ us', u.1 < off ∨ off + q.sz ≤ u.1) {c' : List Value} (hc' : q.rel h c' z) :
  ∃ p c q' : List Value, p.length = off ∧ (Instr.storeAt T (.pointer (some ⟨b, off, none⟩)) (pack q.agg c')).run P w = .ok () (w.setRow b (p ++ c' ++ q').toArray) ∧ c.length = q.sz ∧
   (w.setRow b (p ++ c' ++ q').toArray).heap[b]? = some (.cells (p ++ c' ++ q').toArray T' (0, 0)) ∧ r.rel h (p ++ c' ++ q') (set y z) ∧ (∀ u ∈ us', (p ++ c' ++ q')[u.1]? = some u.2.1) ∧
   St B h (Sum.elim (set1 L s (jWk b T' r (set y z) us')) F) (w.setRow b (p ++ c' ++ q').toArray) := by
 obtain ⟨⟨cs, hb, hr, hu1⟩, hu2⟩ := jMc hst hL
 obtain ⟨p, c, q', rfl, hp, hc, hset⟩ := l h cs y hr
 have hrun := jYx t hc' hb (q.len hc)
 rw [hp] at hrun
 have hmem := jGc w b _ (p ++ c' ++ q').toArray T' hb
 have hrel := hset h c' z (Hle.refl h) hc'
 have hget : ∀ u ∈ us', (p ++ c' ++ q')[u.1]? = some u.2.1 := fun u hu => by
  rw [jC9 hp (q.len hc) (q.len hc') (hap u hu)]; exact hu1 u (hsub.subset hu)
 obtain ⟨hcl, _⟩ := hst.own (k := Sum.inl s) hL
 have hno := (hcl (b, 0) (by simp [jWk])).2.2
 refine ⟨p, c, q', hp, hrun, q.len hc, hmem, hrel, hget, ?_⟩
 refine hst.write (Sum.inl s) (e := jWk b T' r y us) hL (b := b) (lo := 0) (by simp [jWk]) hmem (fun i hi => setRow_other w b i _ hi) (by simp [World.setRow]) rfl rfl rfl ?_ jKg ?_
 ·intro o' v hh; rw [hno o' (Nat.zero_le _)] at hh; cases hh
 ·intro e' he
  rw [jKh he]
  refine ⟨fun c hc => ?_, ⟨_, hmem, hrel, hget⟩, qWw (hbo.sub hsub) (fun i hi => setRow_other w b i _ hi) (fun u hu => hu2 u (hsub.subset hu))⟩
  rcases List.mem_cons.1 hc with rfl | hc
  ·exact List.mem_cons_self
  ·exact List.mem_cons_of_mem _ (qXz hsub c hc)
theorem jT1 {T T' : TypeId} {r : Rep α} {q : Rep β} {ts : List jQb} {s off : Nat} {x v : Operand} {y : α} {z : β} {get : α → β} {set : α → β → α} {y' : α} (l : Lens r q off get set) (t : jYk P T q) (hap : apartB off q.sz ts = true) (hd : o.dst = none)
  (W : Wr) (ho : o.op = .store T x v) (hx : qG4 N x W s off) (hv : jQf N v (fV q z)) (hy' : y' = set y z) : jXh P o N [(s, W.ap (jQm T' r y ts))] jJd.triv [(s, some (W.ap (jQm T' r y' ts)))] := by
 subst hy'
 intro κ B F L h a w hst hn hk _ next Q hnext _
 obtain ⟨b, hdv, hxv⟩ := hx h a hn
 obtain ⟨e, hL, hqW⟩ := hk.1
 obtain ⟨b', us, hv', hta, hbo, rfl⟩ := Wr.iff.1 hqW
 have hd' : W.v a s = .pointer (some ⟨b, 0, none⟩) := hdv
 rw [hd'] at hv'; cases hv'
 obtain ⟨c', hc', hvv⟩ := hv h a hn
 obtain ⟨p, c, q', hp, hrun, _, _, _, _, hst'⟩ := jPg l t hst hL hbo (List.Sublist.refl us) (fun u hu => by
  obtain ⟨t, ht, e⟩ := hta.offs u hu; rw [e]; exact jM6 hap t ht) hc'
 unfold Oper.wpK
 have : (execOp a.eval o).run P w = .ok .skip (w.setRow b (p ++ c' ++ q').toArray) := by
  simp only [execOp, ho, hxv, hvv, Sem.run_bind, hrun, Result.andThen_ok, Sem.run_pure]
 rw [this]
 refine hnext undef h _ _ (Hle.refl h) trivial hst' ?_
 rw [hd]
 exact jVg (Wr.iff.2 ⟨b, us, hd', hta, hbo, rfl⟩)
theorem jNq {T T' : TypeId} {r : Rep α} {q : Rep β} {ts : List jQb} {s off : Nat} {x v : Operand} {y : α} {z : β} {get : α → β} {set : α → β → α} {y' : α} (l : Lens r q off get set) (t : jYk P T q) (hap : apartB off q.sz ts = true) (hd : o.dst = none)
  (ho : o.op = .store T x v) (hx : jQf N x (jZ7 s off)) (hv : jQf N v (fV q z)) (hy' : y' = set y z) : jXh P o N [(s, jQm T' r y ts)] jJd.triv [(s, some (jQm T' r y' ts))] := jT1 l t hap hd .slot ho (.slot hx) hv hy'
theorem jN5 {sv : Value} {T T' : TypeId} {r : Rep α} {q : Rep β} {ts : List jQb} {s off : Nat} {x v : Operand} {y : α} {z : β} {get : α → β} {set : α → β → α} {y' : α} (l : Lens r q off get set) (t : jYk P T q) (hap : apartB off q.sz ts = true) (hd : o.dst = none)
  (ho : o.op = .store T x v) (hx : jQf N x (jP3 sv off)) (hv : jQf N v (fV q z)) (hy' : y' = set y z) : jXh P o N [(s, atV (jQm T' r y ts) sv)] jJd.triv [(s, some (atV (jQm T' r y' ts) sv))] := jT1 l t hap hd (.val sv) ho (.val hx) hv hy'
theorem jZu {T T' : TypeId} {r : Rep α} {s : Nat} {sv : Value} {x v : Operand} {y z : α} (t : jYk P T r) (hd : o.dst = none) (ho : o.op = .store T x v) (hx : jQf N x (fIs sv)) (hv : jQf N v (fV r z)) :
  jXh P o N [(s, atV (jQm T' r y []) sv)] jJd.triv [(s, some (atV (jQm T' r z []) sv))] := by
 intro κ B F L h a w hst hn hk hdn next Q hnext _
 obtain ⟨e, hL, hq⟩ := hk.1
 obtain ⟨b, h1, h2⟩ := hx.off0 hn hq
 obtain ⟨b', us, hv', hta, hbo, rfl⟩ := hq
 rw [h1] at hv'; cases hv'
 obtain ⟨c', hc', hvv⟩ := hv h a hn
 obtain ⟨p, c, q', hp, hrun, _, _, _, _, hst'⟩ := jPg (Lens.refl r) t hst hL hbo (List.nil_sublist us) (fun u hu => by cases hu) hc'
 unfold Oper.wpK
 have : (execOp a.eval o).run P w = .ok .skip (w.setRow b (p ++ c' ++ q').toArray) := by
  simp only [execOp, ho, h2, hvv, Sem.run_bind, hrun, Result.andThen_ok, Sem.run_pure]
 rw [this]
 refine hnext undef h _ _ (Hle.refl h) trivial hst' ?_
 rw [hd]
 exact jVg ⟨b, [], h1, trivial, ⟨List.Pairwise.nil, fun u hu => by cases hu⟩, rfl⟩
theorem BoxOk.nil {b off : Nat} {us1 us2 : List (Nat × Value × Ent)} (h : BoxOk b (us1 ++ us2)) : BoxOk b (us1 ++ (off, nilV, jFr) :: us2) := by
 obtain ⟨h1, h2⟩ := h
 constructor
 ·rw [List.map_append, List.pairwise_append] at h1 ⊢
  obtain ⟨k1, k2, k3⟩ := h1
  refine ⟨k1, List.Pairwise.cons (fun l _ c hc => by cases hc) k2, fun x hx y hy => ?_⟩
  rcases List.mem_cons.1 hy with rfl | hy
  ·intro c _ c' hc'; cases hc'
  ·exact k3 x hx y hy
 ·intro u hu c hc
  rcases List.mem_append.1 hu with hu | hu
  ·exact h2 u (List.mem_append_left _ hu) c hc
  ·rcases List.mem_cons.1 hu with rfl | hu
   ·cases hc
   ·exact h2 u (List.mem_append_right _ hu) c hc
theorem qKj {L : Nat → Option Ent} {s d : Nat} {e1 e2 : Ent} {q1 q2 : jZr} {a : Act} (hsd : s ≠ d) (h1 : q1 (a.gt s) e1) (h2 : q2 (a.gt d) e2) : jSc L (set1 (set1 L s e1) d e2) (full [(s, some q1), (d, some q2)] (some d)) a := by
  intro k
  have hsd' : Nat.beq s d = false := by rw [Bool.eq_false_iff, Ne, jWp]; exact hsd
  by_cases hk : k = d
  · subst hk
    have : lkU (full [(s, some q1), (k, some q2)] (some k)) k = some (some q2) := by simp [full, lkU, hsd', Nat.beq_refl]
    rw [this]; exact ⟨e2, by simp [set1], h2⟩
  · have h3 : Nat.beq d k = false := by rw [Bool.eq_false_iff, Ne, jWp]; exact fun x => hk x.symm
    by_cases hk2 : k = s
    · subst hk2
      have : lkU (full [(k, some q1), (d, some q2)] (some d)) k = some (some q1) := by simp [full, lkU, Nat.beq_refl]
      rw [this]; exact ⟨e1, by simp [set1, hk], h1⟩
    · have h4 : Nat.beq s k = false := by rw [Bool.eq_false_iff, Ne, jWp]; exact fun x => hk2 x.symm
      have : lkU (full [(s, some q1), (d, some q2)] (some d)) k = none := by simp [full, lkU, h3, h4]
      rw [this]; simp [set1, hk, hk2]
theorem jR5 {T T' E : TypeId} {r : Rep α} {q : Rep β} {l1 l2 : List jQb} {s d off sz : Nat} {x : Operand} {y : α} {get : α → List β} {set : α → List β → α} (l : Lens r (Rep.slice q) off get set) (t : jYk P T (Rep.slice q)) (hsd : Nat.beq s d = false) (hd : o.dst = some d) (W : Wr) (ho : o.op = .load T x) (hx : qG4 N x W s off) :
  jXh P o N [(s, W.ap (jQm T' r y (l1 ++ ⟨off, E, sz⟩ :: l2)))] (fV (Rep.slice q) (get y)) [(s, some (W.ap (jQm T' r y (l1 ++ l2)))), (d, some (jVv E sz))] := by
 have hne : s ≠ d := fun x => by rw [jWp.2 x] at hsd; cases hsd
 intro κ B F L h a w hst hn hk hdn next Q hnext _
 obtain ⟨b, hdv, hv⟩ := hx h a hn
 obtain ⟨e, hL, hqW⟩ := hk.1
 obtain ⟨b', us, hv', hta, hbo, rfl⟩ := Wr.iff.1 hqW
 have hd' : W.v a s = .pointer (some ⟨b, 0, none⟩) := hdv
 rw [hd'] at hv'; cases hv'
 obtain ⟨us1, u0, us2, rfl, hoff, htip, h3, h4⟩ := hta.mid
 simp only [] at hoff htip
 have hsub : (us1 ++ us2).Sublist (us1 ++ u0 :: us2) := (List.Sublist.refl us1).append (List.sublist_cons_self _ _)
 obtain ⟨⟨cs, hb, hr, hu1⟩, hu2⟩ := jMc hst hL
 have hm0 : u0 ∈ us1 ++ u0 :: us2 := List.mem_append_right _ List.mem_cons_self
 obtain ⟨p, c, q', rfl, hp, hc, _⟩ := l h cs y hr
 have hcl := (Rep.slice q).len hc
 obtain ⟨c0, rfl, hc0⟩ := hc
 have hcv : c0 = u0.2.1 := by
  have := hu1 u0 hm0
  rw [hoff, List.append_assoc, List.getElem?_append_right (by omega), hp] at this
  simpa using this
 have hrun := jKs (b := b) (off := off) (w := w) t hcl (fun j v hj => by
  rw [jK1 _ _ _ _ _ _ hb]
  have hjl := (List.getElem?_eq_some_iff.1 hj).1
  simp only [List.getElem?_toArray]
  rw [List.append_assoc, List.getElem?_append_right (by omega), ← hp, Nat.add_sub_cancel_left, List.getElem?_append_left hjl]; exact hj)
 unfold Oper.wpK
 have : (execOp a.eval o).run P w = .ok (.value c0) w := by
  have hrun' : (Instr.loadAt T (.pointer (some ⟨b, off, none⟩))).run P w = .ok c0 w := hrun
  simp [execOp, ho, hv, hrun']
 rw [this]
 have hpw := hbo.1
 rw [List.map_append, List.pairwise_append] at hpw
 obtain ⟨_, k2, k3⟩ := hpw
 have k4 := List.pairwise_cons.1 k2
 have hdis : Disj ((b, 0) :: qYh (us1 ++ us2)) u0.2.2.claims := by
  intro c hc c' hc'
  rcases List.mem_cons.1 hc with rfl | hc
  ·exact (hbo.2 u0 hm0 c' hc').symm
  ·obtain ⟨u, hu, hcu⟩ := List.mem_flatMap.1 hc
   rcases List.mem_append.1 hu with hu | hu
   ·exact k3 _ (List.mem_map.2 ⟨u, hu, rfl⟩) _ (List.mem_cons_self) c hcu c' hc'
   ·exact (k4.1 _ (List.mem_map.2 ⟨u, hu, rfl⟩) c' hc' c hcu).symm
 have hst' := hst.split2 (d := d) (e1 := jWk b T' r y (us1 ++ us2)) (e2 := u0.2.2) hL hne (fun c hc => by
   rcases List.mem_cons.1 hc with rfl | hc
   ·exact List.mem_cons_self
   ·exact List.mem_cons_of_mem _ (qXz hsub c hc)) (fun c hc => List.mem_cons_of_mem _ (List.mem_flatMap.2 ⟨u0, hm0, hc⟩)) hdis
  ⟨⟨_, hb, hr, fun u hu => hu1 u (hsub.subset hu)⟩, fun u hu => hu2 u (hsub.subset hu)⟩ (hu2 u0 hm0)
 refine hnext _ h w _ (Hle.refl h) (jZt.2 hc0) hst' ?_
 rw [hd]
 exact qKj hne (Wr.iff.2 (by rw [Wr.v_put hne]; exact ⟨b, _, hd', h4.app h3, hbo.sub hsub, rfl⟩)) (by rw [jQc (hdn d hd), hcv]; exact htip)
theorem jGb {T T' E : TypeId} {r : Rep α} {q : Rep β} {l1 l2 : List jQb} {s d off sz : Nat} {x : Operand} {y : α} {get : α → List β} {set : α → List β → α} (l : Lens r (Rep.slice q) off get set) (t : jYk P T (Rep.slice q)) (hsd : Nat.beq s d = false) (hd : o.dst = some d) (ho : o.op = .load T x) (hx : jQf N x (jZ7 s off)) :
  jXh P o N [(s, jQm T' r y (l1 ++ ⟨off, E, sz⟩ :: l2))] (fV (Rep.slice q) (get y)) [(s, some (jQm T' r y (l1 ++ l2))), (d, some (jVv E sz))] := jR5 l t hsd hd .slot ho (.slot hx)
theorem jRc {sv : Value} {T T' E : TypeId} {r : Rep α} {q : Rep β} {l1 l2 : List jQb} {s d off sz : Nat} {x : Operand} {y : α} {get : α → List β} {set : α → List β → α} (l : Lens r (Rep.slice q) off get set) (t : jYk P T (Rep.slice q)) (hsd : Nat.beq s d = false) (hd : o.dst = some d) (ho : o.op = .load T x) (hx : jQf N x (jP3 sv off)) :
  jXh P o N [(s, atV (jQm T' r y (l1 ++ ⟨off, E, sz⟩ :: l2)) sv)] (fV (Rep.slice q) (get y)) [(s, some (atV (jQm T' r y (l1 ++ l2)) sv)), (d, some (jVv E sz))] := jR5 l t hsd hd (.val sv) ho (.val hx)
theorem qW6 {L : Nat → Option Ent} {s d : Nat} {e : Ent} {q : jZr} {a : Act} (hsd : s ≠ d) (hq : q (a.gt s) e) : jSc L (jRf L s d e) (full [(s, some q), (d, none)] none) a := by
  intro k
  by_cases hk : k = s
  · subst hk
    have : lkU (full [(k, some q), (d, none)] none) k = some (some q) := by simp [full, lkU, Nat.beq_refl]
    rw [this]; exact ⟨e, by simp [jRf, hsd], hq⟩
  · have h4 : Nat.beq s k = false := by rw [Bool.eq_false_iff, Ne, jWp]; exact fun x => hk x.symm
    by_cases hk2 : k = d
    · subst hk2
      have : lkU (full [(s, some q), (k, none)] none) k = some none := by simp [full, lkU, h4, Nat.beq_refl]
      rw [this]; trivial
    · have h3 : Nat.beq d k = false := by rw [Bool.eq_false_iff, Ne, jWp]; exact fun x => hk2 x.symm
      have : lkU (full [(s, some q), (d, none)] none) k = none := by simp [full, lkU, h3, h4]
      rw [this]; simp [jRf, hk, hk2]
theorem jPc {T T' E : TypeId} {r : Rep α} {q : Rep β} {l1 l2 : List jQb} {s d off sz : Nat} {x : Operand} {y : α} {zs : List β} {get : α → List β} {set : α → List β → α} {y' : α} (l : Lens r (Rep.slice q) off get set) (t : jYk P T (Rep.slice q)) (hap : apartB off 1 (l1 ++ l2) = true) (hsd : Nat.beq s d = false) (hd : o.dst = none)
  (W : Wr) (ho : o.op = .store T x (.tmp d)) (hx : qG4 N x W s off) (hv : jQf N (.tmp d) (fV (Rep.slice q) zs)) (hy' : y' = set y zs) : jXh P o N [(s, W.ap (jQm T' r y (l1 ++ l2))), (d, jVv E sz)] jJd.triv [(s, some (W.ap (jQm T' r y' (l1 ++ ⟨off, E, sz⟩ :: l2)))), (d, none)] := by
 subst hy'
 have hne : s ≠ d := fun x => by rw [jWp.2 x] at hsd; cases hsd
 intro κ B F L h a w hst hn hk _ next Q hnext _
 obtain ⟨b, hdv, hxv⟩ := hx h a hn
 obtain ⟨e, hL, hqW⟩ := hk.1
 obtain ⟨b', us, hv', hta, hbo, rfl⟩ := Wr.iff.1 hqW
 obtain ⟨et, hLt, htip⟩ := hk.2.1
 have hLt : L d = some et := hLt
 have htip : jVv E sz (a.gt d) et := htip
 have hd' : W.v a s = .pointer (some ⟨b, 0, none⟩) := hdv
 rw [hd'] at hv'; cases hv'
 obtain ⟨c', hc', hvv⟩ := hv h a hn
 have hvd : a.gt d = pack (Rep.slice q).agg c' := hvv
 obtain ⟨p, c, q', hp, hrun, hcl, hmem, hrel, hget, hst'⟩ := jPg l t hst hL hbo (List.Sublist.refl us) (fun u hu => by
  obtain ⟨t, ht, e⟩ := hta.offs u hu; rw [e]; exact jM6 hap t ht) hc'
 obtain ⟨c0, rfl, hc0⟩ := hc'
 have hvd : a.gt d = c0 := hvd
 unfold Oper.wpK
 have : (execOp a.eval o).run P w = .ok .skip (w.setRow b (p ++ [c0] ++ q').toArray) := by
  simp only [execOp, ho, hxv, hvv, Sem.run_bind, hrun, Result.andThen_ok, Sem.run_pure]
 rw [this]
 obtain ⟨us1, us2, rfl, h3, h4⟩ := hta.cut
 have hta' : jYf (l1 ++ ⟨off, E, sz⟩ :: l2) (us1 ++ (off, c0, et) :: us2) := jYf.app (l2 := ⟨off, E, sz⟩ :: l2) (us2 := (off, c0, et) :: us2) ⟨⟨rfl, by rw [← hvd]; exact htip⟩, h4⟩ h3
 have hLd' : set1 L s (jWk b T' r (set y zs) (us1 ++ us2)) d = some et := by simp [set1, Ne.symm hne, hLt]
 have hdj : Disj ((b, 0) :: qYh (us1 ++ us2)) et.claims := hst.disj (k := Sum.inl s) (k' := Sum.inl d) hL hLt (fun x => hne (Sum.inl.inj x))
 have hbo' : BoxOk b (us1 ++ (off, c0, et) :: us2) := by
  obtain ⟨g1, g2⟩ := hbo
  constructor
  ·rw [List.map_append, List.pairwise_append] at g1 ⊢
   obtain ⟨k1, k2, k3⟩ := g1
   refine ⟨k1, List.Pairwise.cons (fun l hl c hc c' hc' => ?_) k2, fun x hx y hy => ?_⟩
   ·obtain ⟨u, hu, rfl⟩ := List.mem_map.1 hl
    exact (hdj c' (List.mem_cons_of_mem _ (List.mem_flatMap.2 ⟨u, List.mem_append_right _ hu, hc'⟩)) c hc).symm
   ·rcases List.mem_cons.1 hy with rfl | hy
    ·intro c hc c' hc'
     obtain ⟨u, hu, rfl⟩ := List.mem_map.1 hx
     exact hdj c (List.mem_cons_of_mem _ (List.mem_flatMap.2 ⟨u, List.mem_append_left _ hu, hc⟩)) c' hc'
    ·exact k3 x hx y hy
  ·intro u hu c hc
   rcases List.mem_append.1 hu with hu | hu
   ·exact g2 u (List.mem_append_left _ hu) c hc
   ·rcases List.mem_cons.1 hu with rfl | hu
    ·exact (hdj (b, 0) List.mem_cons_self c hc).symm
    ·exact g2 u (List.mem_append_right _ hu) c hc
 obtain ⟨_, hu2⟩ := jMc hst' jHt
 have hokt : et.ok h (World.mem (w.setRow b (p ++ [c0] ++ q').toArray)) := (hst'.own (k := Sum.inl d) hLd').2
 have hj := hst'.jRf (e := jWk b T' r (set y zs) (us1 ++ (off, c0, et) :: us2)) jHt hLd' (fun c hc => by
  rcases List.mem_cons.1 hc with rfl | hc
  ·exact .inl List.mem_cons_self
  ·obtain ⟨u, hu, hcu⟩ := List.mem_flatMap.1 hc
   rcases List.mem_append.1 hu with hu | hu
   ·exact .inl (List.mem_cons_of_mem _ (List.mem_flatMap.2 ⟨u, List.mem_append_left _ hu, hcu⟩))
   ·rcases List.mem_cons.1 hu with rfl | hu
    ·exact .inr hcu
    ·exact .inl (List.mem_cons_of_mem _ (List.mem_flatMap.2 ⟨u, List.mem_append_right _ hu, hcu⟩))) ⟨⟨_, hmem, hrel, fun u hu => by
   rcases List.mem_append.1 hu with hu | hu
   ·exact hget u (List.mem_append_left _ hu)
   ·rcases List.mem_cons.1 hu with rfl | hu
    ·simp only []
     rw [List.append_assoc, List.getElem?_append_right (by omega), hp]; simp
    ·exact hget u (List.mem_append_right _ hu)⟩, fun u hu => by
   rcases List.mem_append.1 hu with hu | hu
   ·exact hu2 u (List.mem_append_left _ hu)
   ·rcases List.mem_cons.1 hu with rfl | hu
    ·exact hokt
    ·exact hu2 u (List.mem_append_right _ hu)⟩
 have hL' : jRf (set1 L s (jWk b T' r (set y zs) (us1 ++ us2))) s d (jWk b T' r (set y zs) (us1 ++ (off, c0, et) :: us2)) = jRf L s d (jWk b T' r (set y zs) (us1 ++ (off, c0, et) :: us2)) := by
  funext k; unfold jRf set1
  by_cases h1 : k = d
  ·rw [if_pos h1, if_pos h1]
  ·rw [if_neg h1, if_neg h1]
   by_cases h2 : k = s
   ·rw [if_pos h2, if_pos h2]
   ·rw [if_neg h2, if_neg h2, if_neg h2]
 rw [hL'] at hj
 refine hnext undef h _ _ (Hle.refl h) trivial hj ?_
 rw [hd]
 exact qW6 hne (Wr.iff.2 ⟨b, _, hd', hta', hbo', rfl⟩)
theorem jK6 {T T' E : TypeId} {r : Rep α} {q : Rep β} {l1 l2 : List jQb} {s d off sz : Nat} {x : Operand} {y : α} {zs : List β} {get : α → List β} {set : α → List β → α} {y' : α} (l : Lens r (Rep.slice q) off get set) (t : jYk P T (Rep.slice q)) (hap : apartB off 1 (l1 ++ l2) = true) (hsd : Nat.beq s d = false) (hd : o.dst = none)
  (ho : o.op = .store T x (.tmp d)) (hx : jQf N x (jZ7 s off)) (hv : jQf N (.tmp d) (fV (Rep.slice q) zs)) (hy' : y' = set y zs) : jXh P o N [(s, jQm T' r y (l1 ++ l2)), (d, jVv E sz)] jJd.triv [(s, some (jQm T' r y' (l1 ++ ⟨off, E, sz⟩ :: l2))), (d, none)] := jPc l t hap hsd hd .slot ho (.slot hx) hv hy'
theorem jPr {sv : Value} {T T' E : TypeId} {r : Rep α} {q : Rep β} {l1 l2 : List jQb} {s d off sz : Nat} {x : Operand} {y : α} {zs : List β} {get : α → List β} {set : α → List β → α} {y' : α} (l : Lens r (Rep.slice q) off get set) (t : jYk P T (Rep.slice q)) (hap : apartB off 1 (l1 ++ l2) = true) (hsd : Nat.beq s d = false) (hd : o.dst = none)
  (ho : o.op = .store T x (.tmp d)) (hx : jQf N x (jP3 sv off)) (hv : jQf N (.tmp d) (fV (Rep.slice q) zs)) (hy' : y' = set y zs) : jXh P o N [(s, atV (jQm T' r y (l1 ++ l2)) sv), (d, jVv E sz)] jJd.triv [(s, some (atV (jQm T' r y' (l1 ++ ⟨off, E, sz⟩ :: l2)) sv)), (d, none)] := jPc l t hap hsd hd (.val sv) ho (.val hx) hv hy'
end Go.KB
namespace Go.KB
variable {P : Program} {o : Oper} {N : List (Nat × jJd)} {f : jJd} {α β : Type}
def jG1 (P : Program) (T : TypeId) (i : Nat) : Option (TypeId × Nat) :=
 match P.underlying T with
 | some (.struct fs) => match fs[i]? with
  | some g => some (g.type, g.offset)
  | none => none
 | _ => none
theorem jCa {T' : TypeId} {q : Rep β} (t : jYk P T' q) {h : H} {p c r : List Value} {y : β} (hc : q.rel h c y) (w : World) : (part T' (p ++ c ++ r).toArray p.length).run P w = .ok (pack q.agg c) w := by
 have hl := q.len hc
 unfold part
 cases ha : q.agg with
 | true =>
  simp only [Sem.run_bind, t.agg, ha, Result.andThen_ok, if_true, t.size, Sem.run_pure, pack, cond_true]
  congr 2
  simp only [List.extract_toArray, List.extract_eq_take_drop]
  congr 1
  rw [List.append_assoc, List.drop_left' rfl, show p.length + q.sz - p.length = c.length by omega, List.take_left' rfl]
 | false =>
  rw [q.one ha] at hl
  match c, hl with
  | [v], _ =>
   have : (p ++ [v] ++ r).toArray[p.length]? = some v := by simp
   simp only [Sem.run_bind, t.agg, ha, Result.andThen_ok, Bool.false_eq_true, if_false, this, Sem.run_pure, pack, cond_false]
theorem qZ8 {T T' : TypeId} {r : Rep α} {q : Rep β} {x : Operand} {y : α} {i off : Nat} {get : α → β} {set : α → β → α} (l : Lens r q off get set) (hag : r.agg = true) (hf : jG1 P T i = some (T', off)) (t : jYk P T' q) (ho : o.op = .field T x i) (hx : jQf N x (fV r y)) :
  jXh P o N [] (fV q (get y)) [] :=
 jXh.ofRun fun h a w _ n => by
  unfold jG1 at hf
  split at hf
  ·rename_i fs hT
   split at hf
   ·rename_i g hg
    simp only [Option.some.injEq, Prod.mk.injEq] at hf
    obtain ⟨h1, h2⟩ := hf
    obtain ⟨cs, hr, hv⟩ := hx h a n
    obtain ⟨p, c, q', rfl, hp, hc, _⟩ := l h cs y hr
    rw [hag] at hv
    refine ⟨pack q.agg c, ?_, c, hc, rfl⟩
    have := jCa t (p := p) (r := q') hc w
    rw [List.append_assoc] at this
    simp [execOp, ho, hv, pack, Instr.field, run_underlying hT, hg, asAgg, h1, h2, ← hp, this]
   ·cases hf
  ·cases hf
def fVN (r : Rep α) (x : α) (ts : List jQb) : jJd := ⟨none, fun h _ v => ∃ cs, r.rel h cs x ∧ v = pack r.agg cs ∧ jHr cs ts, fun hl ⟨cs, k, e, n⟩ => ⟨cs, r.mono hl k, e, n⟩⟩
theorem jHr.apart {p c c' q : List Value} {off sz : Nat} (hp : p.length = off) (hc : c.length = sz) (hc' : c'.length = sz) : ∀ {ts : List jQb}, apartB off sz ts = true → jHr (p ++ c ++ q) ts → jHr (p ++ c' ++ q) ts := by
 intro ts
 induction ts with
 | nil => intro _ _; trivial
 | cons t ts ih =>
  intro ha hn
  have h1 := jM6 ha t List.mem_cons_self
  refine ⟨by rw [jC9 hp hc hc' h1]; exact hn.1, ih ?_ hn.2⟩
  unfold apartB at ha ⊢
  rw [List.all_cons, Bool.and_eq_true] at ha
  exact ha.2
def qJ2 (P : Program) (N : List (Nat × jJd)) (place : Nat → Option (Nat × Nat)) {α : Type} (r : Rep α) (ts : List jQb) : List (Nat × Operand) → α → α → Prop
 | [], x, y => x = y
 | (i, o) :: rest, x, y => ∃ (β : Type) (s : Rep β) (off : Nat) (get : α → β) (set : α → β → α) (z : β), Lens r s off get set ∧ place i = some (off, s.sz) ∧ apartB off s.sz ts = true ∧ jQf N o (fV s z) ∧ qJ2 P N place r ts rest (set x z) y
theorem qZa {place : Nat → Option (Nat × Nat)} {r : Rep α} {ts : List jQb} {x : α} : qJ2 P N place r ts [] x x := rfl
theorem jAw {place : Nat → Option (Nat × Nat)} {r : Rep α} {ts : List jQb} {s : Rep β} {off i : Nat} {x' : Operand} {get : α → β} {set : α → β → α} {z : β} {rest : List (Nat × Operand)} {x y : α} (l : Lens r s off get set) (hp : place i = some (off, s.sz)) (ha : apartB off s.sz ts = true) (ho : jQf N x' (fV s z))
  (k : qJ2 P N place r ts rest (set x z) y) : qJ2 P N place r ts ((i, x') :: rest) x y := ⟨β, s, off, get, set, z, l, hp, ha, ho, k⟩
theorem qJ2.run {place : Nat → Option (Nat × Nat)} {r : Rep α} {ts : List jQb} {h : H} {a : Act} (n : jRa N h a) : ∀ {parts : List (Nat × Operand)} {x y : α} {cs : List Value}, qJ2 P N place r ts parts x y → r.rel h cs x → jHr cs ts →
  ∃ cs', Instr.fill place cs.toArray (parts.map fun q => (q.1, a.eval q.2)) = some cs'.toArray ∧ r.rel h cs' y ∧ jHr cs' ts := by
 intro parts
 induction parts with
 | nil => intro x y cs k hr ht; rw [show x = y from k] at hr; exact ⟨cs, rfl, hr, ht⟩
 | cons q rest ih =>
  obtain ⟨i, op⟩ := q
  rintro x y cs ⟨β, s, off, get, set, z, l, hp, ha, ho, k⟩ hr ht
  obtain ⟨p, c, q, rfl, hpl, hc, hset⟩ := l h cs x hr
  obtain ⟨c', hc', hv⟩ := ho h a n
  simp only [List.map_cons]
  rw [qJk hc' hv hp hpl (s.len hc)]
  exact ih k (hset h c' z (Hle.refl h) hc') (ht.apart hpl (s.len hc) (s.len hc') ha)
theorem jRt {T : TypeId} {r : Rep α} {place : Nat → Option (Nat × Nat)} {parts : Array (Nat × Operand)} {y : α} (ts : List jQb) (t : jYk P T r) (hag : r.agg = true) (hpl : jZb P T place) (ho : o.op = .build T parts)
  (hz : jHr r.zc ts) (k : qJ2 P N place r ts parts.toList r.zero y) : jXh P o N [] (fVN r y ts) [] :=
 jXh.ofRun fun h a w _ n => by
  obtain ⟨cs', hf, hr, ht⟩ := k.run n (r.zrel h) hz
  refine ⟨.agg cs'.toArray, ?_, cs', hr, by rw [hag]; rfl, ht⟩
  have h1 := hpl r.zc.toArray (parts.map fun q => (q.1, a.eval q.2)) w cs'.toArray _ (t.zero w) (jYr (r.zrel h)) (by rw [Array.toList_map]; exact hf)
  simp only [execOp, ho, Sem.run_bind, h1, Result.andThen_ok, Sem.run_pure]
theorem St.putT {κ : Type} {B : Base} {h : H} {L : Nat → Option Ent} {F : κ → Option Ent} {w : World} (hst : St B h (Sum.elim L F) w) {s b : Nat} {T : TypeId} {r : Rep α} {x y : α} {us : List (Nat × Value × Ent)} {cs cs' : List Value} {ts : List jQb}
  (hk : L s = some (jWk b T r x us)) (hb : w.heap[b]? = some (.cells cs.toArray T (0, 0))) (hr : r.rel h cs' y) (ht : jHr cs' ts) :
  St B h (Sum.elim (set1 L s (jWk b T r y (jCw ts))) F) (w.setRow b cs'.toArray) := by
 obtain ⟨hcl, _⟩ := hst.own (k := Sum.inl s) hk
 have hno := (hcl (b, 0) (by simp [jWk])).2.2
 have hmem := jGc w b _ cs'.toArray T hb
 refine hst.write (Sum.inl s) (e := jWk b T r x us) hk (b := b) (lo := 0) (by simp [jWk]) hmem (fun i hi => setRow_other w b i cs'.toArray hi) (by simp [World.setRow]) rfl rfl rfl ?_ jKg ?_
 ·intro o' v hh
  rw [hno o' (Nat.zero_le _)] at hh; cases hh
 ·intro e' he
  rw [jKh he]
  refine ⟨fun c hc => ?_, ⟨cs', hmem, hr, ht.at⟩, fun u hu => by rw [(jR7 hu).1]; trivial⟩
  have hc : c ∈ (b, 0) :: qYh (jCw ts) := hc
  rw [jCl] at hc
  simp at hc
  subst hc
  exact List.mem_cons_self
theorem jLa {T : TypeId} {r : Rep α} {ts0 ts : List jQb} {s : Nat} {v : Operand} {y z : α} (t : jYk P T r) (hd : o.dst = none)
  (ho : o.op = .store T (.tmp s) v) (hv : jQf N v (fVN r z ts)) : jXh P o N [(s, jQm T r y ts0)] jJd.triv [(s, some (jQm T r z ts))] := by
 intro κ B F L h a w hst hn hk _ next Q hnext _
 obtain ⟨e, hL, b, us, hxv, _, _, rfl⟩ := hk.1
 have hxv' : a.eval (.tmp s) = .pointer (some ⟨b, 0, none⟩) := hxv
 obtain ⟨⟨cs, hb, hr, _⟩, _⟩ := jMc hst hL
 obtain ⟨c', hc', hvv, ht⟩ := hv h a hn
 have hrun := jYx (p := []) (c := cs) (q := []) t hc' (by simpa using hb) (r.len hr)
 unfold Oper.wpK
 have : (execOp a.eval o).run P w = .ok .skip (w.setRow b c'.toArray) := by
  simp only [List.length_nil, List.nil_append, List.append_nil] at hrun
  simp only [execOp, ho, hxv', hvv, Sem.run_bind, hrun, Result.andThen_ok, Sem.run_pure]
 rw [this]
 refine hnext undef h _ _ (Hle.refl h) trivial (hst.putT hL hb hc' ht) ?_
 rw [hd]
 exact jVg ⟨b, _, hxv, jRp ts, jCb b ts, rfl⟩
end Go.KB
namespace Go.KB
variable {P : Program} {o : Oper} {N : List (Nat × jJd)} {α β : Type}
section
variable [DecidableEq α]
def jTz (z : β) : List (α × β) → α → β
 | [], _ => z
 | p :: r, x => bif decide (x = p.1) then p.2 else jTz z r x
def mhas : List (α × β) → α → Bool
 | [], _ => false
 | p :: r, x => decide (x = p.1) || mhas r x
def jMh : List (α × β) → α → β → List (α × β)
 | [], x, y => [(x, y)]
 | p :: r, x, y => bif decide (x = p.1) then (p.1, y) :: r else p :: jMh r x y
def qXu : List α → α → Option Nat
 | [], _ => none
 | y :: r, x => bif decide (x = y) then some 0 else (qXu r x).map (· + 1)
structure jRz (P : Program) (K : TypeId) (rk : Rep α) (f : α → Value) : Prop where
 is : ∀ {h u x}, rk.val h u x → u = f x
 chk : ∀ (e : Bool) (w : World) (x : α), (Instr.checkKey e 10000 K (f x)).run P w = .ok () w
 find : ∀ (es : List MapEntry) (ks : List α) (x : α) (w : World), es.map (·.key) = ks.map f → (Instr.findKey K (f x) es).run P w = .ok ((qXu ks x).bind fun i => es[i]?.map fun e => (i, e.val)) w
 bits : ∀ x, Instr.sameBits 10000 (f x) (f x) = true
 val : ∀ h x, rk.val h (f x) x
theorem jP0 {f : α → Value} {d : TypeDesc} (hd : ∀ x y, Instr.sameNow d (f x) (f y) = some (decide (x = y))) (x : α) : ∀ (es : List MapEntry) (ks : List α) (n : Nat), es.map (·.key) = ks.map f →
  Instr.findNow d (f x) es n = some ((qXu ks x).bind fun i => es[i]?.map fun e => (n + i, e.val))
 | [], [], _, _ => rfl
 | [], _ :: _, _, h => by cases h
 | _ :: _, [], _, h => by cases h
 | e :: es, y :: ks, n, h => by
  simp only [List.map_cons, List.cons.injEq] at h
  by_cases hx : x = y
  ·simp only [Instr.findNow, h.1, hd, hx, decide_true, qXu, cond_true]; rfl
  ·simp only [Instr.findNow, h.1, hd, decide_eq_false hx, qXu, cond_false]
   rw [jP0 hd x es ks (n + 1) h.2]
   cases qXu ks x with
   | none => rfl
   | some i => simp only [Option.map_some, Option.bind_some, List.getElem?_cons_succ]; rw [show n + 1 + i = n + (i + 1) by omega]
theorem run_findKey {K : TypeId} {d : TypeDesc} {u : Value} {es : List MapEntry} {r : Option (Nat × Value)} {w : World} (hd : P.underlying K = some d) (h : Instr.findNow d u es 0 = some r) : (Instr.findKey K u es).run P w = .ok r w := by
 unfold Instr.findKey
 simp only [Sem.run_bind, run_underlying hd, Result.andThen_ok, h, Sem.run_pure]
theorem jTx {K : TypeId} {f : α → Value} {d : TypeDesc} (hK : P.underlying K = some d) (hd : ∀ x y, Instr.sameNow d (f x) (f y) = some (decide (x = y))) (es : List MapEntry) (ks : List α) (x : α) (w : World) (h : es.map (·.key) = ks.map f) :
  (Instr.findKey K (f x) es).run P w = .ok ((qXu ks x).bind fun i => es[i]?.map fun e => (i, e.val)) w :=
 run_findKey hK (by simpa using jP0 hd x es ks 0 h)
def jCt (s : Str) : Value := .string ⟨s.toArray⟩
theorem jRz.str {K : TypeId} (hK : P.underlying K = some .string) : jRz P K Rep.str jCt where
 is := fun e => jWg.1 e
 chk := fun e w x => MapKept.run_checkKey hK (by trivial) e 9999
 find := jTx hK fun x y => by
  simp only [Instr.sameNow, jCt]
  congr 1
  rw [Bool.eq_iff_iff, MapKept.bytes_beq]
  simp
 bits := fun x => (MapKept.bytes_beq _ _).2 rfl
 val := fun _ _ => jWg.2 rfl
def kInt (k : IntKind) (n : Int) : Value := .int k n
theorem jRz.int {K : TypeId} {k : IntKind} (hK : P.underlying K = some (.int k)) : jRz P K (Rep.int k) (kInt k) where
 is := fun e => jQ0.1 e
 chk := fun e w x => MapKept.run_checkKey hK (by trivial) e 9999
 find := jTx hK fun x y => by
  simp only [Instr.sameNow, kInt, if_true]
  congr 1
 bits := fun x => by simp [Instr.sameBits, kInt]
 val := fun _ _ => jQ0.2 rfl
end
def jP2 (f : α → Value) (rv : Rep β) (h : H) : List MapEntry → List (α × β) → Prop
 | [], [] => True
 | e :: es, p :: l => (e.key = f p.1 ∧ rv.val h e.val p.2) ∧ jP2 f rv h es l
 | _, _ => False
theorem jP2.mono {f : α → Value} {rv : Rep β} {h h' : H} (hl : Hle h h') : ∀ {es : List MapEntry} {l : List (α × β)}, jP2 f rv h es l → jP2 f rv h' es l
 | [], [], _ => trivial
 | _ :: _, _ :: _, ⟨⟨a, b⟩, c⟩ => ⟨⟨a, rv.val_mono hl b⟩, jP2.mono hl c⟩
theorem jP2.keys {f : α → Value} {rv : Rep β} {h : H} : ∀ {es : List MapEntry} {l : List (α × β)}, jP2 f rv h es l → es.map (·.key) = (l.map (·.1)).map f
 | [], [], _ => rfl
 | _ :: _, _ :: _, ⟨⟨a, _⟩, c⟩ => by simp only [List.map_cons, a, jP2.keys c]
theorem jP2.snoc {f : α → Value} {rv : Rep β} {h : H} {e : MapEntry} {p : α × β} (he : e.key = f p.1 ∧ rv.val h e.val p.2) : ∀ {es : List MapEntry} {l : List (α × β)}, jP2 f rv h es l → jP2 f rv h (es ++ [e]) (l ++ [p])
 | [], [], _ => ⟨he, trivial⟩
 | _ :: _, _ :: _, ⟨a, c⟩ => ⟨a, jP2.snoc he c⟩
def jMk (es : List MapEntry) (c : Nat) : Prop := (es.map (·.born)).Nodup ∧ ∀ e ∈ es, e.born < c
theorem jMk.push {es : List MapEntry} {c : Nat} {k v : Value} (h : jMk es c) : jMk (es ++ [{ key := k, val := v, born := c }]) (c + 1) := by
 refine ⟨?_, fun e he => ?_⟩
 ·rw [List.map_append, List.nodup_append]
  refine ⟨h.1, by simp, fun a ha b hb => ?_⟩
  obtain ⟨e, he, rfl⟩ := List.mem_map.1 ha
  simp only [List.map_cons, List.map_nil, List.mem_singleton] at hb
  have := h.2 e he
  omega
 ·rcases List.mem_append.1 he with he | he
  ·have := h.2 e he; omega
  ·simp only [List.mem_singleton] at he; subst he; exact Nat.lt_succ_self _
theorem jMk.modify {es : List MapEntry} {c j : Nat} {g : MapEntry → MapEntry} (hg : ∀ e, (g e).born = e.born) (h : jMk es c) : jMk (es.modify j g) c := by
 have hm : (es.modify j g).map (·.born) = es.map (·.born) := by
  refine List.ext_getElem? fun m => ?_
  simp only [List.getElem?_map, List.getElem?_modify]
  cases es[m]? with
  | none => rfl
  | some e => simp only [Option.map_some]; split <;> simp [hg]
 refine ⟨by rw [hm]; exact h.1, fun e he => ?_⟩
 have : e.born ∈ (es.modify j g).map (·.born) := List.mem_map.2 ⟨e, he, rfl⟩
 rw [hm] at this
 obtain ⟨e', he', hb⟩ := List.mem_map.1 this
 rw [← hb]; exact h.2 e' he'
def jFs (b : Nat) (f : α → Value) (rv : Rep β) (l : List (α × β)) : Ent where
 claims := [(b, 0)]
 ok := fun h m => ∃ es clock, m b = some (.map es clock) ∧ jP2 f rv h es.toList l ∧ jMk es.toList clock
 mono := by rintro h h' m hl ⟨es, c, e, k⟩; exact ⟨es, c, e, k.1.mono hl, k.2⟩
 frame := fun hm ⟨es, c, e, k⟩ => ⟨es, c, by rw [hm (b, 0) (by simp)]; exact e, k⟩
def jR9 (f : α → Value) (rv : Rep β) (l : List (α × β)) : jZr := fun v e => ∃ b, v = .map (some b) ∧ e = jFs b f rv l
theorem qZu {T : TypeId} {f : α → Value} {rv : Rep β} {d : Nat} (hd : o.dst = some d) (ho : o.op = .makeMap T none) : jXh P o N [] jJd.triv [(d, some (jR9 f rv []))] := by
 intro κ B F L h a w hst hn _ hdn next Q hnext _
 unfold Oper.wpK
 have : (execOp a.eval o).run P w = .ok (.value (.map (some w.heap.size))) (w.alloc (.map #[] 0)) := by
  have e : (Instr.makeMap T none).run P w = .ok (.map (some w.heap.size)) (w.alloc (.map #[] 0)) := rfl
  simp only [execOp, ho, Option.map_none, Sem.run_bind, e, Result.andThen_ok, Sem.run_pure]
 rw [this]
 refine hnext _ h _ (set1 L d (jFs w.heap.size f rv [])) (Hle.refl h) trivial (hst.own_new _ d _ (by simp [jFs]) ⟨#[], 0, jHw _ _, trivial, by simp [jMk]⟩) ?_
 rw [hd]
 exact jVg ⟨_, jQc (hdn d hd), rfl⟩
theorem map_at {κ : Type} {B : Base} {h : H} {L : Nat → Option Ent} {F : κ → Option Ent} {w : World} (hst : St B h (Sum.elim L F) w) {s b : Nat} {f : α → Value} {rv : Rep β} {l : List (α × β)}
  (hk : L s = some (jFs b f rv l)) : ∃ es clock, w.heap[b]? = some (.map es clock) ∧ jP2 f rv h es.toList l :=
 let ⟨es, c, h1, h2, _⟩ := (hst.own (k := Sum.inl s) hk).2
 ⟨es, c, h1, h2⟩
theorem qHj {κ : Type} {B : Base} {h : H} {L : Nat → Option Ent} {F : κ → Option Ent} {w : World} (hst : St B h (Sum.elim L F) w) {s b : Nat} {f : α → Value} {rv : Rep β} {l : List (α × β)}
  (hk : L s = some (jFs b f rv l)) : ∃ es clock, w.heap[b]? = some (.map es clock) ∧ jP2 f rv h es.toList l ∧ jMk es.toList clock := (hst.own (k := Sum.inl s) hk).2
section
variable [DecidableEq α]
theorem jCv {f : α → Value} {rv : Rep β} {h : H} (x : α) : ∀ {es : List MapEntry} {l : List (α × β)}, jP2 f rv h es l →
    (qXu (l.map (·.1)) x = none ∧ mhas l x = false ∧ (∀ z, jTz z l x = z) ∧ ∀ y, jMh l x y = l ++ [(x, y)]) ∨
    ∃ i e0, qXu (l.map (·.1)) x = some i ∧ es[i]? = some e0 ∧ e0.key = f x ∧ mhas l x = true ∧ (∀ z, rv.val h e0.val (jTz z l x)) ∧
      ∀ g y, (∀ e, (g e).key = e.key) → (∀ e, rv.val h (g e).val y) → jP2 f rv h (es.modify i g) (jMh l x y)
  | [], [], _ => .inl ⟨rfl, rfl, fun _ => rfl, fun _ => rfl⟩
  | e :: es, p :: l, ⟨⟨hk, hv⟩, hr⟩ => by
    by_cases hx : x = p.1
    · refine .inr ⟨0, e, ?_, rfl, by rw [hk, hx], by simp [mhas, hx], fun z => by simpa [jTz, hx] using hv, fun g y hg hy => ?_⟩
      · simp only [List.map_cons, qXu, hx, decide_true, cond_true]
      · simp only [List.modify_zero_cons, jMh, hx, decide_true, cond_true]
        exact ⟨⟨by rw [hg, hk], hy e⟩, hr⟩
    · rcases jCv x hr with ⟨h1, h2, h3, h4⟩ | ⟨i, e0, h1, h2, h3, h4, h5, h6⟩
      · exact .inl ⟨by simp [qXu, hx, h1], by simp [mhas, hx, h2], fun z => by simp [jTz, hx, h3], fun y => by simp [jMh, hx, h4]⟩
      · refine .inr ⟨i + 1, e0, by simp [qXu, hx, h1], by simpa using h2, h3, by simp [mhas, h4], fun z => by simpa [jTz, hx] using h5 z, fun g y hg hy => ?_⟩
        simp only [List.modify_succ_cons, jMh, hx, decide_false, cond_false]
        exact ⟨⟨hk, hv⟩, h6 g y hg hy⟩
theorem jAn {K : TypeId} {rk : Rep α} {f : α → Value} (hf : jRz P K rk f) {rv : Rep β} {h : H} {es : List MapEntry} {l : List (α × β)} (hr : jP2 f rv h es l) {x : α} (h1 : qXu (l.map (·.1)) x = none) (w : World) : (Instr.findKey K (f x) es).run P w = .ok none w := by
 rw [hf.find _ _ x w hr.keys, h1]; rfl
theorem jA1 {K : TypeId} {rk : Rep α} {f : α → Value} (hf : jRz P K rk f) {rv : Rep β} {h : H} {es : List MapEntry} {l : List (α × β)} (hr : jP2 f rv h es l) {x : α} {i : Nat} {e0 : MapEntry} (h1 : qXu (l.map (·.1)) x = some i) (h2 : es[i]? = some e0) (w : World) : (Instr.findKey K (f x) es).run P w = .ok (some (i, e0.val)) w := by
 rw [hf.find _ _ x w hr.keys, h1, Option.bind_some, h2]; rfl
end
section
variable [DecidableEq α]
theorem qX8 {T K E : TypeId} {rk : Rep α} {f : α → Value} {rv : Rep β} {s : Nat} {x i : Operand} {l : List (α × β)} {y : α} (hf : jRz P K rk f) (t : jYk P E rv) (hT : P.underlying T = some (.map K E))
  (W : Wr) (ho : o.op = .lookup T x i false) (hx : OpdW N x W s) (hi : jQf N i (fV rk y)) : jXh P o N [(s, W.ap (jR9 f rv l))] (fV rv (jTz rv.zero l y)) [] := by
 intro κ B F L h a w hst hn hk _ next Q hnext _
 obtain ⟨e, hL, hq⟩ := hk.1
 obtain ⟨b, hv, rfl⟩ := Wr.iff.1 hq
 have hx' : a.eval x = .map (some b) := (hx h a hn).trans hv
 have hi' := hf.is (hi h a hn)
 obtain ⟨es, clock, hb, hr⟩ := map_at hst hL
 rcases jCv y hr with ⟨h1, _, h3, _⟩ | ⟨j, e0, h1, h2, _, _, h5, _⟩
 ·have : (execOp a.eval o).run P w = .ok (.value (pack rv.agg rv.zc)) w := by
   simp [execOp, ho, hx', hi', Instr.lookup, run_underlying hT, MapKept.run_getObj_map hb, hf.chk, jAn hf hr h1, t.zero]
  unfold Oper.wpK
  rw [this]
  exact hnext _ h w L (Hle.refl h) ⟨rv.zc, by rw [h3]; exact rv.zrel h, rfl⟩ hst jWl
 ·have : (execOp a.eval o).run P w = .ok (.value e0.val) w := by
   simp [execOp, ho, hx', hi', Instr.lookup, run_underlying hT, MapKept.run_getObj_map hb, hf.chk, jA1 hf hr h1 h2]
  unfold Oper.wpK
  rw [this]
  exact hnext _ h w L (Hle.refl h) (h5 _) hst jWl
theorem qYz {T K E : TypeId} {rk : Rep α} {f : α → Value} {rv : Rep β} {s : Nat} {x i : Operand} {l : List (α × β)} {y : α} (hf : jRz P K rk f) (t : jYk P E rv) (hT : P.underlying T = some (.map K E))
  (ho : o.op = .lookup T x i false) (hx : jQf N x (fCp s)) (hi : jQf N i (fV rk y)) : jXh P o N [(s, jR9 f rv l)] (fV rv (jTz rv.zero l y)) [] := qX8 hf t hT .slot ho (.slot hx) hi
theorem run_keyThatStays {u : Value} {w : World} (h : Instr.sameBits 10000 u u = true) : (Instr.keyThatStays u u).run P w = .ok u w := by
 unfold Instr.keyThatStays
 rw [if_pos h]; rfl
def jFk (w : World) (b : Nat) (o : Obj) : World := { w with heap := w.heap.setIfInBounds b o }
theorem qZy {w : World} {b : Nat} {o o' : Obj} (hb : w.heap[b]? = some o) : (jFk w b o').heap[b]? = some o' := by
 have := (Array.getElem?_eq_some_iff.1 hb).1
 simp [jFk, this]
theorem qXc {w : World} {b i : Nat} {o' : Obj} (hi : i ≠ b) : (jFk w b o').heap[i]? = w.heap[i]? := by
 simp [jFk, Ne.symm hi]
theorem jCr {T K E : TypeId} {rk : Rep α} {f : α → Value} {rv : Rep β} {s : Nat} {x i v : Operand} {l : List (α × β)} {y : α} {z : β} (hf : jRz P K rk f) (hT : P.underlying T = some (.map K E)) (hd : o.dst = none)
    (W : Wr) (ho : o.op = .mapUpdate T x i v ∨ o.op = .insert T x i v) (hx : OpdW N x W s) (hi : jQf N i (fV rk y)) (hv : jQf N v (fV rv z)) : jXh P o N [(s, W.ap (jR9 f rv l))] jJd.triv [(s, some (W.ap (jR9 f rv (jMh l y z))))] := by
  intro κ B F L h a w hst hn hk _ next Q hnext _
  obtain ⟨e, hL, hq⟩ := hk.1
  obtain ⟨b, hvb, rfl⟩ := Wr.iff.1 hq
  have hx' : a.eval x = .map (some b) := (hx h a hn).trans hvb
  have hi' := hf.is (hi h a hn)
  have hv' := hv h a hn
  obtain ⟨es, clock, hb, hr, hB⟩ := qHj hst hL
  have fin : ∀ es' clock', jP2 f rv h es'.toList (jMh l y z) → jMk es'.toList clock' → (execOp a.eval o).run P w = .ok .skip (jFk w b (.map es' clock')) → o.wpK P a w next Q := by
    intro es' clock' hrel hbn hrun
    unfold Oper.wpK
    rw [hrun]
    refine hnext undef h _ (set1 L s (jFs b f rv (jMh l y z))) (Hle.refl h) trivial ?_ ?_
    · obtain ⟨hcl, _⟩ := hst.own (k := Sum.inl s) hL
      have hno := (hcl (b, 0) (by simp [jFs])).2.2
      have hlt := (hcl (b, 0) (by simp [jFs])).2.1
      refine hst.step (hnf := hst.nf_own (k := Sum.inl s) hL (by simp [jFs])) (Sum.inl s) (fun i => i = b) (fun i hi _ => ⟨_, hL, (b, 0), by simp [jFs], hi.symm⟩) (by simp [jFk]) rfl rfl rfl (fun i _ hi => qXc hi) (Hle.refl h) (fun _ _ _ _ => rfl) ?_ jKg ?_
      · rintro i o' u (rfl | hi) hu
        · rw [hno o' (Nat.zero_le _)] at hu; cases hu
        · rw [hst.fresh hi] at hu; cases hu
      · intro e' he
        rw [jKh he]
        refine ⟨fun c hc => ?_, es', clock', qZy hb, hrel, hbn⟩
        simp only [jFs, List.mem_singleton] at hc
        subst hc
        exact ⟨.inr ⟨_, hL, (b, 0), by simp [jFs], rfl⟩, by simpa [jFk] using hlt, fun o' _ => hno o' (Nat.zero_le _)⟩
    · rw [hd]
      exact jVg (Wr.iff.2 ⟨b, hvb, rfl⟩)
  rcases jCv y hr with ⟨h1, _, _, h4⟩ | ⟨j, e0, h1, h2, h3, _, _, h6⟩
  · refine fin (es.push { key := f y, val := a.eval v, born := clock }) (clock + 1) ?_ (by rw [Array.toList_push]; exact hB.push) ?_
    · rw [h4, Array.toList_push]
      exact jP2.snoc (e := ⟨f y, a.eval v, clock⟩) (p := (y, z)) ⟨rfl, hv'⟩ hr
    · rcases ho with ho | ho <;> simp [execOp, ho, hx', hi', Instr.mapUpdate, run_underlying hT, MapKept.run_getObj_map hb, hf.chk, jAn hf hr h1, MapKept.run_setObj_map _ hb, jFk]
  · have h2' : es[j]? = some e0 := by simpa using h2
    refine fin (es.modify j fun e => { e with key := f y, val := a.eval v }) clock ?_ (by rw [Array.toList_modify]; exact hB.modify (fun _ => rfl)) ?_
    · have hkey : es.toList.modify j (fun e => { e with key := f y, val := a.eval v }) = es.toList.modify j (fun e => { e with val := a.eval v }) := by
        refine List.ext_getElem? fun m => ?_
        simp only [List.getElem?_modify]
        by_cases hm : j = m
        · subst hm; simp [h2', ← h3]
        · simp [hm]
      rw [Array.toList_modify, hkey]
      exact h6 _ z (fun _ => rfl) (fun _ => hv')
    · rcases ho with ho | ho <;> simp [execOp, ho, hx', hi', Instr.mapUpdate, run_underlying hT, MapKept.run_getObj_map hb, hf.chk, jA1 hf hr h1 h2, h2', h3, run_keyThatStays (hf.bits y), MapKept.run_setObj_map _ hb, jFk]
theorem jPl {T K E : TypeId} {rk : Rep α} {f : α → Value} {rv : Rep β} {s : Nat} {x i v : Operand} {l : List (α × β)} {y : α} {z : β} (hf : jRz P K rk f) (hT : P.underlying T = some (.map K E)) (hd : o.dst = none)
  (ho : o.op = .mapUpdate T x i v ∨ o.op = .insert T x i v) (hx : jQf N x (fCp s)) (hi : jQf N i (fV rk y)) (hv : jQf N v (fV rv z)) : jXh P o N [(s, jR9 f rv l)] jJd.triv [(s, some (jR9 f rv (jMh l y z)))] := jCr hf hT hd .slot ho (.slot hx) hi hv
end
end Go.KB
namespace Go.KB
variable {P : Program} {o : Oper} {N : List (Nat × jJd)} {α β : Type}
def qUg (r : Rep α) (h : H) (v : Value) : Option α → Prop
 | none => v = .pointer none
 | some x => ∃ b off, v = .pointer (some ⟨b, off, none⟩) ∧ jD7 r h b off x
def Rep.ptr (r : Rep α) : Rep (Option α) where
 sz := 1
 agg := false
 rel := fun h cs x => ∃ v, cs = [v] ∧ qUg r h v x
 zero := none
 zc := [.pointer none]
 one := fun _ => rfl
 len := fun ⟨v, e, _⟩ => by rw [e]; rfl
 flat := fun {h cs x} ⟨v, e, k⟩ c hc => by
  rw [e] at hc; simp at hc; rw [hc]
  cases x with
  | none => rw [show v = _ from k]; rfl
  | some x => obtain ⟨b, off, rfl, _⟩ := k; rfl
 mono := fun {h h' cs x} hl ⟨v, e, k⟩ => ⟨v, e, by
  cases x with
  | none => exact k
  | some x => obtain ⟨b, off, e, k⟩ := k; exact ⟨b, off, e, k.mono hl⟩⟩
 zrel := fun _ => ⟨_, rfl, rfl⟩
theorem jT5 {r : Rep α} {h : H} {v : Value} {x : Option α} : (Rep.ptr r).val h v x ↔ qUg r h v x :=
 ⟨fun ⟨_, ⟨v', e, k⟩, e'⟩ => by rw [e', e]; exact k, fun k => ⟨[v], ⟨v, rfl, k⟩, rfl⟩⟩
theorem opdP0 {r : Rep α} : jQf N (.const (.pointer none)) (fV (Rep.ptr r) none) := fun _ _ _ => jT5.2 rfl
theorem opdP {r : Rep α} {x : Operand} {y : α} (hx : jQf N x (jQv r y)) : jQf N x (fV (Rep.ptr r) (some y)) := fun h a n => jT5.2 (hx h a n)
theorem opdPg {r : Rep α} {x : Operand} {q : Option α} {y : α} (hq : q = some y) (hx : jQf N x (fV (Rep.ptr r) q)) : jQf N x (jQv r y) := fun h a n => by
 have := jT5.1 (hx h a n)
 rw [hq] at this
 exact this
theorem jSx {r : Rep α} {x : Operand} {y : α} (ho : o.op = .nilCheck x) (hx : jQf N x (jQv r y)) : jXh P o N [] (jQv r y) [] :=
 jXh.ofRun fun h a w _ n => by
  obtain ⟨b, off, hv, hr⟩ := hx h a n
  exact ⟨.pointer (some ⟨b, off, none⟩), by simp [execOp, ho, hv], b, off, rfl, hr⟩
theorem ok_neP {T T' : TypeId} {r : Rep α} {x : Operand} {q : Option α} (hT : P.underlying T = some (.pointer (P.pointee T))) (ho : o.op = .binOp .neq T x (.const (.pointer none)) T') (hx : jQf N x (fV (Rep.ptr r) q)) : jXh P o N [] (fV Rep.bool q.isSome) [] :=
 jXh.ofRun fun h a w _ n => by
  have hg : ∀ p, (eqGuard .neq T x (.const (.pointer none)) (.pointer p) (.pointer none)).run P w = .ok () w := by
   intro p; unfold eqGuard; rfl
  have hv := jT5.1 (hx h a n)
  cases q with
  | none =>
   have hv : a.eval x = .pointer none := hv
   exact ⟨.bool false, by simp only [execOp, ho, hv, show a.eval (.const (.pointer none)) = .pointer none from rfl, hg, Sem.run_bind, Result.andThen_ok, Sem.run_pure, run_neq_pointer_nil w T none hT]; rfl, jZz.2 rfl⟩
  | some y =>
   obtain ⟨b, off, hv, _⟩ := hv
   exact ⟨.bool true, by simp only [execOp, ho, hv, show a.eval (.const (.pointer none)) = .pointer none from rfl, hg, Sem.run_bind, Result.andThen_ok, Sem.run_pure, run_neq_pointer_nil w T (some ⟨b, off, none⟩) hT]; rfl, jZz.2 rfl⟩
theorem St.newCells {κ : Type} {B : Base} {h : H} {L : κ → Option Ent} {w w' : World} (k : κ) (hst : St B h L w) {c : Array Value} {t : TypeId} {fr : Nat × Nat} (hsz : w'.heap.size = w.heap.size + 1) (hos : w'.os = w.os) (htp : w'.tape = w.tape) (hout : w'.output = w.output)
  (hold : ∀ b, b < w.heap.size → w'.heap[b]? = w.heap[b]?) (hnew : w'.heap[w.heap.size]? = some (.cells c t fr)) {cs : List Value} (hcs : ∀ (j : Nat) (v : Value), cs[j]? = some v → c[j]? = some v) (hci : ∀ v ∈ cs, ¬ isI v)
  (hdr : w.drawn ≤ w'.drawn := by first | exact Nat.le_refl _ | exact Nat.le_add_right _ _ | assumption) :
  Hle h (hadd h w.heap.size cs) ∧ St B (hadd h w.heap.size cs) L w' := by
 have hle : Hle h (hadd h w.heap.size cs) := qQj (fun o v x _ => by rw [hst.fresh (Nat.le_refl _)] at x; cases x)
 refine ⟨hle, hst.step (hnf := fun b o v hb _ hi hv => by
  rcases hb with hb | hb
  ·exact hb.elim
  ·by_cases hbe : b = w.heap.size
   ·subst hbe
    by_cases ho : o < cs.length
    ·rw [jH3 ho] at hv; cases hv; exact absurd hi (hci _ (List.getElem_mem _))
    ·rw [jSz (by omega), hst.fresh (Nat.le_refl _)] at hv; cases hv
   ·rw [jU1 hbe, hst.fresh hb] at hv; cases hv) k (fun _ => False) (fun b hb => hb.elim) (by omega) hos htp hout (fun b hb _ => hold b hb) hle (fun b o hb _ => jU1 (by omega)) ?_ (fun _ _ _ x => x) ?_⟩
 ·rintro b o v (hb | hb) hv
  ·exact hb.elim
  ·by_cases hbe : b = w.heap.size
   ·subst hbe
    by_cases ho : o < cs.length
    ·rw [jH3 ho, ← List.getElem?_eq_getElem ho] at hv
     rw [jK1 _ _ _ _ _ _ hnew]
     exact hcs o v hv
    ·simp only [hadd, if_true, if_neg ho] at hv
     rw [hst.fresh (Nat.le_refl _)] at hv; cases hv
   ·rw [jU1 hbe, hst.fresh hb] at hv; cases hv
 ·intro e he
  obtain ⟨h1, h2⟩ := hst.own he
  refine ⟨fun c hc => ?_, e.mono hle (e.frame (fun c hc => hold c.1 (h1 c hc).2.1) h2)⟩
  obtain ⟨h3, h4, h5⟩ := h1 c hc
  exact ⟨.inr ⟨e, he, c, hc, rfl⟩, by omega, fun o ho => by rw [jU1 (by omega)]; exact h5 o ho⟩
def jW4 (s : Str) : List Int := s.map fun c => ((UInt8.toNat c : Nat) : Int)
theorem jA7 {S T E : TypeId} {x : Operand} {s : Str} (hS : P.underlying S = some .string) (hT : P.underlying T = some (.slice E)) (hE : P.underlying E = some (.int .u8)) (ho : o.op = .convert S T x) (hx : jQf N x (fV Rep.str s)) :
  jXh P o N [] (fV (Rep.slice (Rep.int .u8)) (jW4 s)) [] := by
 intro κ B F L h a w hst hn _ _ next Q hnext _
 have hv := jWg.1 (hx h a hn)
 unfold Oper.wpK
 have : (execOp a.eval o).run P w = .ok (.value (.slice (some ⟨w.heap.size, 0, none⟩) s.length (grownCap w s.length 0 E))) (Lib.bytesWorld w E ⟨s.toArray⟩) := by
  have hr := Lib.run_convert_string_bytes (P := P) w S T E ⟨s.toArray⟩ hS hT hE
  simp only [execOp, ho, hv, Sem.run_bind, hr, Result.andThen_ok, Sem.run_pure]
  rfl
 rw [this]
 obtain ⟨hle, hst'⟩ := hst.newCells (Sum.inl 0) (w' := Lib.bytesWorld w E ⟨s.toArray⟩) (cs := s.map fun c => Value.int .u8 ((UInt8.toNat c : Nat) : Int)) (Lib.bytesWorld_size w E _) rfl rfl rfl (fun b hb => Lib.bytesWorld_at_old w E _ b hb) (Lib.bytesWorld_at_new w E _) (fun j v hj => by
  have hjl := (List.getElem?_eq_some_iff.1 hj).1
  rw [List.length_map] at hjl
  unfold Lib.bytesCells
  rw [Array.getElem?_append_left (by simpa using hjl)]
  simpa using hj) (fun v hv => by
  obtain ⟨c, _, rfl⟩ := List.mem_map.1 hv
  rintro ⟨n, e⟩; cases e)
 refine hnext _ _ _ L hle (jZt.2 (.inr ⟨w.heap.size, 0, _, by unfold jW4; rw [List.length_map], by unfold jW4; rw [List.length_map]; exact grownCap_ge w _ 0 E, fun i x hi => ?_, fun _ => hst.mn⟩)) hst' jWl
 refine ⟨[.int .u8 x], rfl, fun j v hj => ?_⟩
 match j, hj with
 | 0, hj =>
  cases hj
  have hil := (List.getElem?_eq_some_iff.1 hi).1
  have hil2 : i < s.length := by simpa [jW4] using hil
  simp only [Rep.int, Rep.scalar, Nat.mul_one, Nat.zero_add, Nat.add_zero]
  rw [jH3 (by rw [List.length_map]; exact hil2)]
  congr 1
  unfold jW4 at hi
  rw [List.getElem?_map, List.getElem?_eq_getElem hil2] at hi
  simp only [Option.map_some, Option.some.injEq] at hi
  rw [List.getElem_map, hi]
end Go.KB
namespace Go.KB
variable {P : Program} {o : Oper} {N : List (Nat × jJd)} {α β : Type}
def qY1 (P : Program) (f : FuncId) (args : List jJd) (i : Nat) (q q' : jZr) (post : jJd) : Prop :=
 ∀ (κ : Type) (B : Base) (L : κ → Option Ent) (h : H) (w : World) (vs : List Value) (x : Ent) (v : Value), St B h (Sum.elim (fun _ : Unit => some x) L) w → args.length = vs.length → vs[i]? = some v → q v x →
  (∀ (j : Nat) (g : jJd) (u : Value), args[j]? = some g → vs[j]? = some u → g.p h undef u) →
  Calls P f vs.toArray w (fun e w' => ∃ u h' x', e = .returned u ∧ Hle h h' ∧ St B h' (Sum.elim (fun _ : Unit => some x') L) w' ∧ post.p h' undef u ∧ q' u x')
theorem qZe {s d i : Nat} {q q' Q : jZr} {f : FuncId} {fn : Func} {args : List jJd} {post : jJd} {xs : Array Operand} {ts : Array TypeId} {y : Operand}
    (hc : qY1 P f args i q q' post) (hf : P.funcs[f]? = some fn) (hbd : jKn fn = true) (hd : jVf (post :: args) = true) (hsd : Nat.beq s d = false) (hdst : o.dst = some d)
    (ho : o.op = .call { callee := .value (.func f), args := xs, argTypes := ts }) (hy : xs.toList[i]? = some y) (hyx : ∀ h a e, jRa N h a → Q (a.gt s) e → q (a.eval y) e) (hargs : jKw N args xs.toList) : jXh P o N [(s, Q)] post [(s, none), (d, some q')] := by
  intro κ B F L h a w hst hn hk hdn next Q hnext _
  obtain ⟨e, hL, hq⟩ := hk.1
  have hL : L s = some e := hL
  have hq : q (a.eval y) e := hyx h a e hn hq
  simp only [jKn, Bool.and_eq_true, Bool.not_eq_true'] at hbd
  have hbody : fn.body ≠ none := by
    intro hx; rw [hx] at hbd; cases hbd.1
  have hname : fn.name ≠ "runtime.NumGoroutine" := by simpa using hbd.2
  have hdp := jZq hd
  have hne : s ≠ d := fun x => by rw [jWp.2 x] at hsd; cases hsd
  obtain ⟨hlen, hall⟩ := hargs.spec
  unfold Oper.wpK
  have : (execOp a.eval o).run P w = .ok (.enter f (xs.toList.map a.eval).toArray) w := by
    have e : (xs.toList.map a.eval).toArray = xs.map a.eval := by apply Array.ext'; simp
    rw [e]
    simp [execOp, ho, resolve, Act.eval, Deferred.ofValue, invoke, callFunc, hf, hname, hbody]
  rw [this, jBg]
  have hst1 : St B h (Sum.elim (set1 L s e) F) w := by rw [jBn hL]; exact hst
  refine (hc _ B _ h w (xs.toList.map a.eval) e (a.eval y) hst1.out (by rw [List.length_map]; exact hlen) (by rw [List.getElem?_map, hy]; rfl) hq ?_).mono ?_
  · intro j g v hg hv
    rw [List.getElem?_map] at hv
    cases hx : xs.toList[j]? with
    | none => rw [hx] at hv; cases hv
    | some x =>
      rw [hx] at hv; cases hv
      have := hall j g x hg hx h a hn
      unfold jJd.dv at this
      rw [hdp g (List.mem_cons_of_mem _ (List.mem_of_getElem? hg))] at this
      exact this
  · rintro e' w' ⟨v, h', x', rfl, hl, hst', hp, hq'⟩
    refine hnext v h' w' (set1 (fun k => if k = s then none else L k) d x') hl ?_ ?_ ?_
    · unfold jJd.dv
      rw [hdp post List.mem_cons_self]
      exact hp
    · generalize (fun k => if k = s then none else L k) = L0 at hst'
      refine hst'.reind (fun k => match k with | .inl k => if k = d then .inl () else .inr (.inl k) | .inr k => .inr (.inr k)) ?_ ?_
      · intro k e hk
        cases k with
        | inr k => exact hk
        | inl k =>
          by_cases hkd : k = d
          · subst hkd; simp [set1] at hk; simp [hk]
          · simp [set1, hkd] at hk; simp [hkd, hk]
      · intro k k' e1 e2 h1 h2 hne
        cases k with
        | inr k => cases k' with
          | inr k' => intro he; exact hne (by rw [Sum.inr.inj (Sum.inr.inj he)])
          | inl k' => intro he; simp only [] at he; split at he <;> cases he
        | inl k => cases k' with
          | inr k' => intro he; simp only [] at he; split at he <;> cases he
          | inl k' =>
            have hne' : k ≠ k' := fun x => hne (by rw [x])
            simp only []
            intro he
            split at he <;> split at he
            · rename_i h3 h4; exact hne' (h3.trans h4.symm)
            · cases he
            · cases he
            · exact hne' (Sum.inl.inj (Sum.inr.inj he))
    · rw [hdst]
      intro k
      have hsd' : Nat.beq s d = false := hsd
      by_cases hk : k = d
      · subst hk
        have : lkU (full [(s, none), (k, some q')] (some k)) k = some (some q') := by simp [full, lkU, hsd', Nat.beq_refl]
        rw [this]; exact ⟨x', by simp [set1], by rw [jQc (hdn k hdst)]; exact hq'⟩
      · by_cases hks : k = s
        · subst hks
          have : lkU (full [(k, none), (d, some q')] (some d)) k = some none := by simp [full, lkU, Nat.beq_refl]
          rw [this]; trivial
        · have h1 : Nat.beq s k = false := by rw [Bool.eq_false_iff, Ne, jWp]; exact fun x => hks x.symm
          have h2 : Nat.beq d k = false := by rw [Bool.eq_false_iff, Ne, jWp]; exact fun x => hk x.symm
          have : lkU (full [(s, none), (d, some q')] (some d)) k = none := by simp [full, lkU, h1, h2]
          rw [this]; simp [set1, hk, hks]
theorem qKz {s d i : Nat} {q q' : jZr} {f : FuncId} {fn : Func} {args : List jJd} {post : jJd} {xs : Array Operand} {ts : Array TypeId} {y : Operand}
  (hc : qY1 P f args i q q' post) (hf : P.funcs[f]? = some fn) (hbd : jKn fn = true) (hd : jVf (post :: args) = true) (hsd : Nat.beq s d = false) (hdst : o.dst = some d)
  (ho : o.op = .call { callee := .value (.func f), args := xs, argTypes := ts }) (hy : xs.toList[i]? = some y) (hyx : jQf N y (fCp s)) (hargs : jKw N args xs.toList) : jXh P o N [(s, q)] post [(s, none), (d, some q')] :=
 qZe hc hf hbd hd hsd hdst ho hy (fun h a e n k => by rw [show a.eval y = a.gt s from hyx h a n]; exact k) hargs
theorem qYb {s i : Nat} {ι : Type} {q0 q0' : jZr} {q q' : ι → jZr} {fx : jJd} {f : FuncId} {fn : Func} {args : List jJd} {post : jJd} {xs : Array Operand} {ts : Array TypeId} {y : Operand}
  (hc : ∀ k, qX5 P f args i (q k) (q' k) post) (hb : jMw s fx q0 q0' q q') (hfx : fx.dep = some s) (hf : P.funcs[f]? = some fn) (hbd : jKn fn = true) (hd : jVf (post :: args) = true) (hds : qU0 o.dst s = true)
  (ho : o.op = .call { callee := .value (.func f), args := xs, argTypes := ts }) (hy : xs.toList[i]? = some y) (hyx : jQf N y fx) (hargs : jKw N args xs.toList) : jXh P o N [(s, q0)] jJd.triv [(s, some q0')] :=
 jXh.out (jZq hd post List.mem_cons_self) (fun _ _ _ _ => trivial) (qQh hc hb hfx hf hbd hd hds ho hy hyx hargs)
end Go.KB
namespace Go.KB
variable {P : Program} {o : Oper} {N : List (Nat × jJd)} {α β : Type}
def jDp : jJd := ⟨none, fun _ _ v => v = .slice none 0 0, fun _ x => x⟩
theorem opdN0 : jQf N (.const (.slice none 0 0)) jDp := fun _ _ _ => rfl
theorem opdNS {r : Rep α} {x : Operand} (hx : jQf N x jDp) : jQf N x (fV (Rep.slice r) []) := fun h a n => by
 rw [show a.eval x = _ from hx h a n]
 exact jZt.2 (.inl ⟨⟨none, rfl⟩, rfl⟩)
theorem jAa {T E : TypeId} {x : Operand} (hT : P.underlying T = some (.slice E)) (ho : o.op = .call { callee := .builtin .cap, args := #[x], argTypes := #[T] }) (hx : jQf N x jDp) : jXh P o N [] (fV (Rep.int .i64) 0) [] :=
 jXh.ofRun fun h a w _ n => by
  have hv : a.eval x = .slice none 0 0 := hx h a n
  exact ⟨.int .i64 0, by simp [execOp, ho, resolve, invoke, builtin, Builtin.cap_, hv, run_underlying hT, goInt], jQ0.2 rfl⟩
theorem qJa {T E : TypeId} {k : IntKind} {x y : Operand} {r : Rep α} (t : jYk P E r) (hT : P.underlying T = some (.slice E)) (ho : o.op = .slice T x none (some y) none) (hx : jQf N x jDp) (hy : jQf N y (fV (Rep.int k) 0)) : jXh P o N [] jDp [] :=
 jXh.ofRun fun h a w _ n => by
  have hv : a.eval x = .slice none 0 0 := hx h a n
  have hv' := jQ0.1 (hy h a n)
  exact ⟨.slice none 0 0, by simp [execOp, ho, hv, hv', Instr.sliceAt, Instr.slice, run_underlying hT, Instr.sliceBounds, Instr.sliceBound, asIntOf, t.size], rfl⟩
theorem jS3 (z : Array Value) (n : Nat) : (Builtin.zeroCells z (n + 1)).toList = z.toList ++ (Builtin.zeroCells z n).toList := by
  unfold Builtin.zeroCells
  simp only [Array.toList_map, Array.toList_range]
  rw [show (n + 1) * z.size = z.size + n * z.size by rw [Nat.add_mul]; omega, List.range_add, List.map_append, List.map_map]
  congr 1
  · refine List.ext_getElem (by simp) fun i h1 h2 => ?_
    have hi : i < z.size := by simpa using h2
    simp [Nat.mod_eq_of_lt hi, hi]
  · refine List.map_congr_left fun i _ => ?_
    simp
theorem jMu (z : List Value) : ∀ n, (Builtin.zeroCells z.toArray n).toList = (List.replicate n z).flatten
 | 0 => by simp [Builtin.zeroCells]
 | n + 1 => by rw [jS3, jMu z n, List.replicate_succ, List.flatten_cons]
def mkp (z : α) (n : Int) : Option (List α) := bif decide (0 < n) && decide (n ≤ lim) then some (List.replicate n.toNat z) else none
theorem qZh {T T' E : TypeId} {r : Rep α} {k k' : IntKind} {n : Int} {d : Nat} {x y : Operand} {zs : List α} (hz : mkp r.zero n = some zs) (el : jS8 P E r) (hpos : 0 < r.sz) (hT : P.underlying T = some (.slice E)) (hT' : P.underlying T' = some (.int k')) (hd : o.dst = some d)
  (ho : o.op = .call { callee := .builtin .append, args := #[x, y], argTypes := #[T, T'] }) (hx : jQf N x jDp) (hy : jQf N y (fV (Rep.int k) n)) : jXh P o N [] jJd.triv [(d, some (jQ5 E r zs))] := by
 unfold mkp at hz
 cases hb : (decide (0 < n) && decide (n ≤ lim)) with
 | false => rw [hb] at hz; cases hz
 | true =>
  rw [hb] at hz; cases hz
  simp only [Bool.and_eq_true, decide_eq_true_eq] at hb
  obtain ⟨m, rfl⟩ : ∃ m : Nat, n = m := ⟨n.toNat, by omega⟩
  obtain ⟨i, hi, hsz, hby, hzero⟩ := el.out
  have hl : (lim : Int) = 137438953472 := rfl
  have hm : m ≤ 137438953472 := by omega
  have hbytes := Nat.mul_le_mul hm hby
  intro κ B F L h a w hst hn _ hdn next Q hnext _
  have hv : a.eval x = .slice none 0 0 := hx h a hn
  have hv' := jQ0.1 (hy h a hn)
  have hr := Lib.run_append_nil_zeros (P := P) w T T' o.type E i _ k k' hT hT' hi hzero m (by omega) (by omega) (by omega) (by omega)
  have hzc := jYr (r.zrel h)
  rw [hzc] at hr
  unfold Oper.wpK
  have : (execOp a.eval o).run P w = .ok (.value (.slice (some ⟨w.heap.size, 0, none⟩) m (grownCap w m 0 E))) (w.drew.alloc (.cells (Builtin.zeroCells r.zc.toArray m ++ Builtin.zeroCells r.zc.toArray (grownCap w m 0 E - m)) E)) := by
   simp only [execOp, ho, resolve, invoke, builtin, Sem.run_bind, Sem.run_pure, Result.andThen_ok, List.map_toArray, List.map_cons, List.map_nil, hv, hv', hr]
  rw [this]
  have hge := grownCap_ge w m 0 E
  refine hnext _ h _ (set1 L d (jV0 w.heap.size E r (List.replicate m r.zero) (grownCap w m 0 E))) (Hle.refl h) trivial ((hst.drawn (w.drawn + 1) (Nat.le_succ _)).own_new _ d _ (by simp [jV0]) ?_) ?_
  ·refine ⟨(List.replicate m r.zc).flatten, (List.replicate (grownCap w m 0 E - m) r.zc).flatten, ?_, jG9.zeros r h _, ?_⟩
   ·rw [jHw]
    congr 2
    apply Array.ext'
    simp only [Array.toList_append, jMu]
   ·rw [← jLr r _ _ hge, qJr]
  ·rw [hd, Int.toNat_natCast]
   exact jVg (.inr ⟨_, grownCap w m 0 E, by rw [jQc (hdn d hd), List.length_replicate], by rw [List.length_replicate]; exact hge, rfl⟩)
theorem qQu {E : TypeId} {r : Rep α} {d : Nat} {x : Operand} (hd : o.dst = some d) (ho : o.op = .assign x ∨ o.op = .move x) (hx : jQf N x jDp) : jXh P o N [] jJd.triv [(d, some (jQ5 E r []))] := by
 intro κ B F L h a w hst hn _ hdn next Q hnext _
 have hv : a.eval x = .slice none 0 0 := hx h a hn
 unfold Oper.wpK
 have : (execOp a.eval o).run P w = .ok (.value (.slice none 0 0)) w := by rcases ho with ho | ho <;> simp [execOp, ho, hv]
 rw [this]
 have hst' : St B h (Sum.elim (set1 L d jFr) F) w := by
  refine hst.step (Sum.inl d) (fun _ => False) (fun b hb => hb.elim) (Nat.le_refl _) rfl rfl rfl (fun _ _ _ => rfl) (Hle.refl h) (fun _ _ _ _ => rfl) ?_ jKg ?_
  ·rintro b o' v (hb | hb) hv
   ·exact hb.elim
   ·rw [hst.fresh hb] at hv; cases hv
  ·intro e' he; rw [jKh he]; exact ⟨fun c hc => (by cases hc), trivial⟩
 refine hnext _ h w _ (Hle.refl h) trivial hst' ?_
 rw [hd]
 exact jVg (.inl ⟨⟨_, jQc (hdn d hd)⟩, rfl, rfl⟩)
end Go.KB
namespace Go.KB
section
variable {P : Program} {o : Oper} {N : List (Nat × jJd)} {α : Type}
theorem jQx {T : TypeId} {r : Rep α} {s : Nat} {y : α} (t : jYk P T r) (ho : o.op = .load T (.tmp s)) : jXh P o ((s, jQv r y) :: N) [] (fV r y) [] := jXu t ho jJw
theorem jXg {β : Type} {T : TypeId} {r : Rep α} {q : Rep β} {s : Nat} {y : α} {i off : Nat} {get : α → β} {set : α → β → α} (l : Lens r q off get set) (hf : jQy P T i off) (ho : o.op = .fieldAddr T (.tmp s) i) : jXh P o ((s, jQv r y) :: N) [] (jQv q (get y)) [] := jXs l hf ho jJw
theorem jXq {T : TypeId} {r : Rep α} {s v : Nat} {y z : α} (t : jYk P T r) (ho : o.op = .store T (.tmp s) (.tmp v)) (hd : o.dst = none := by rfl) : jXh P o ((v, fV r z) :: N) [(s, jJg T r y)] jJd.triv [(s, some (jJg T r z))] := jM4 t hd ho jJw
def qG8 : BinOp → Bool
 | .eql | .neq | .lss | .leq | .gtr | .geq => true
 | _ => false
theorem jTc {op : BinOp} (h : qG8 op = true) : op = .eql ∨ op = .neq ∨ op = .lss ∨ op = .leq ∨ op = .gtr ∨ op = .geq := by
 cases op <;> first | (cases h; done) | simp
theorem jX3 {op : BinOp} {k : IntKind} {T T' : TypeId} {s : Nat} {m n : Int} (ho : o.op = .binOp op T (.tmp s) (.const (.int k n)) T') (hop : qG8 op = true := by rfl) : jXh P o ((s, fV (Rep.int k) m) :: N) [] (fV Rep.bool (jJq op m n)) [] := jXe (jTc hop) rfl ho jJw jJ9
theorem jVc {op : BinOp} {k : IntKind} {T T' : TypeId} {s t : Nat} {m n : Int} (ho : o.op = .binOp op T (.tmp s) (.tmp t) T') (hop : qG8 op = true := by rfl) : jXh P o ((s, fV (Rep.int k) m) :: (t, fV (Rep.int k) n) :: N) [] (fV Rep.bool (jJq op m n)) [] := jXe (jTc hop) rfl ho jJw jJb
theorem jQj {α β γ : Type} {x : Option α} {f : α → Option β} {g : α → β → Option γ} {r : γ} (h : (x.bind fun a => (f a).bind (g a)) = some r) : ∃ a, x = some a ∧ ∃ b, f a = some b ∧ g a b = some r := by
 obtain ⟨a, h1, h⟩ := jJr h
 obtain ⟨b, h2, h⟩ := jJr h
 exact ⟨a, h1, b, h2, h⟩
theorem tn {K : Act → World → Prop} {Q : Exit → Act → World → Prop} {a : Act} {w : World} (h : K a w) : Exit.then K Q .normal a w := h
theorem tr {K : Act → World → Prop} {Q : Exit → Act → World → Prop} {a : Act} {w : World} (h : Q .ret a w) : Exit.then K Q .ret a w := h
theorem ws {ρ : Option Nat} {Q : Exit → Act → World → Prop} {a : Act} {w : World} {x y : Code} (h : x.wpK ρ P (Exit.then (y.wpK ρ P Q) Q) a w) : (Code.seq x y).wpK ρ P Q a w := wp_seq h
theorem wk {ρ : Option Nat} {Q : Exit → Act → World → Prop} {a : Act} {w : World} (h : Q .normal a w) : Code.skip.wpK ρ P Q a w := wp_skip h
theorem wr {ρ : Option Nat} {Q : Exit → Act → World → Prop} {a : Act} {w : World} (h : Q .ret a w) : Code.ret.wpK ρ P Q a w := wp_ret h
abbrev ln {α : Type} (l : List α) : Int := (List.length l : Int)
abbrev w3 : Int → Int := IntKind.u32.wrap
abbrev w6 : Int → Int := IntKind.u64.wrap
abbrev w1 : Int → Int := IntKind.u16.wrap
abbrev lS {α : Type} (r : Rep α) : Rep (List α) := Rep.slice r
end
end Go.KB
