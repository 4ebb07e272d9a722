/- Variables whose fields are rows that are appended to. Fields of values; values whose fields are nil, and variables that take them. Maps that are owned: made, looked into, written. Pointers that are only read, nil among them; texts as rows of bytes. Functions that take a row over and hand a row back. Rows that grow from nothing: cap, cuts and appends of zeros at nil. Arrays: slices of arrays that are not written any more, elements of arrays. No condition. -/
import Derived.Test.YtipapjkpbnjkmaaGreatDoorKZb
import Derived.MapKept
import Derived.Laws.Pointers
import Derived.Lib.ConvBytes
import Derived.Lib.AppendZeros
namespace Go.KB
variable {P : Program} {o : Oper} {N : List (Nat × jJa)} {f : jJa} {α β : Type}
inductive Wr where
 | slot
 | val (sv : Value)
def atV (q : jX3) (sv : Value) : jX3 := fun _ e => q sv e
def Wr.ap (W : Wr) (q : jX3) : jX3 := match W with | .slot => q | .val sv => atV q sv
def Wr.v (W : Wr) (a : Act) (g : Nat) : Value := match W with | .slot => a.gt g | .val sv => sv
theorem Wr.iff {W : Wr} {q : jX3} {a : Act} {g : Nat} {e : Ent} : W.ap q (a.gt g) e ↔ q (W.v a g) e := by cases W <;> rfl
def OpdW (N : List (Nat × jJa)) (x : Operand) (W : Wr) (g : Nat) : Prop := ∀ h a, jPu N h a → a.eval x = W.v a g
theorem OpdW.slot {x : Operand} {g : Nat} (hx : jJ9 N x (fCp g)) : OpdW N x .slot g := fun h a n => hx h a n
theorem OpdW.val {x : Operand} {g : Nat} {sv : Value} (hx : jJ9 N x (fIs sv)) : OpdW N x (.val sv) g := fun h a n => hx h a n
theorem Wr.v_put {W : Wr} {a : Act} {s d : Nat} {v : Value} (h : s ≠ d) : W.v (a.put (some d) v) s = W.v a s := by
 cases W with
 | slot => exact jN2 h
 | val sv => rfl
def qYd (N : List (Nat × jJa)) (x : Operand) (W : Wr) (s off : Nat) : Prop := ∀ h a, jPu N h a → ∃ b, W.v a s = .pointer (some ⟨b, 0, none⟩) ∧ a.eval x = .pointer (some ⟨b, off, none⟩)
def jZg (sv : Value) (off : Nat) : jJa := ⟨none, fun _ _ v => ∃ b, sv = .pointer (some ⟨b, 0, none⟩) ∧ v = .pointer (some ⟨b, off, none⟩), fun _ x => x⟩
theorem qYd.slot {x : Operand} {s off : Nat} (hx : jJ9 N x (jWs s off)) : qYd N x .slot s off := fun h a n => hx h a n
theorem qYd.val {x : Operand} {s off : Nat} {sv : Value} (hx : jJ9 N x (jZg sv off)) : qYd N x (.val sv) s off := fun h a n => hx h a n
structure jJ4 where
 off : Nat
 E : TypeId
 sz : Nat
def jKx : List jJ4 → List (Nat × Value × Ent) → Prop
 | [], [] => True
 | t :: ts, u :: us => (u.1 = t.off ∧ jVl t.E t.sz u.2.1 u.2.2) ∧ jKx ts us
 | _, _ => False
theorem jKx.mid {t : jJ4} {l2 : List jJ4} : ∀ {l1 : List jJ4} {us : List (Nat × Value × Ent)}, jKx (l1 ++ t :: l2) us →
  ∃ us1 u us2, us = us1 ++ u :: us2 ∧ u.1 = t.off ∧ jVl t.E t.sz u.2.1 u.2.2 ∧ jKx l1 us1 ∧ jKx l2 us2 := by
 intro l1
 induction l1 with
 | nil =>
  intro us h
  cases us with
  | nil => exact h.elim
  | cons u us => exact ⟨[], u, us, rfl, h.1.1, h.1.2, trivial, h.2⟩
 | cons t1 l1 ih =>
  intro us h
  cases us with
  | nil => exact h.elim
  | cons u0 us =>
   obtain ⟨us1, u, us2, rfl, h1, h2, h3, h4⟩ := ih h.2
   exact ⟨u0 :: us1, u, us2, rfl, h1, h2, ⟨h.1, h3⟩, h4⟩
theorem jKx.app {l2 : List jJ4} {us2 : List (Nat × Value × Ent)} (h2 : jKx l2 us2) : ∀ {l1 : List jJ4} {us1 : List (Nat × Value × Ent)}, jKx l1 us1 → jKx (l1 ++ l2) (us1 ++ us2) := by
 intro l1
 induction l1 with
 | nil =>
  intro us1 h
  cases us1 with
  | nil => exact h2
  | cons u us => exact h.elim
 | cons t1 l1 ih =>
  intro us1 h
  cases us1 with
  | nil => exact h.elim
  | cons u0 us => exact ⟨h.1, ih h.2⟩
theorem jKx.offs : ∀ {l : List jJ4} {us : List (Nat × Value × Ent)}, jKx l us → ∀ u ∈ us, ∃ t ∈ l, u.1 = t.off := by
 intro l
 induction l with
 | nil =>
  intro us h u hu
  cases us with
  | nil => cases hu
  | cons _ _ => exact h.elim
 | cons t l ih =>
  intro us h u hu
  cases us with
  | nil => exact h.elim
  | cons u0 us =>
   rcases List.mem_cons.1 hu with rfl | hu
   ·exact ⟨t, List.mem_cons_self, h.1.1⟩
   ·obtain ⟨t', ht', e⟩ := ih h.2 u hu
    exact ⟨t', List.mem_cons_of_mem _ ht', e⟩
theorem jKx.cut {l2 : List jJ4} : ∀ {l1 : List jJ4} {us : List (Nat × Value × Ent)}, jKx (l1 ++ l2) us → ∃ us1 us2, us = us1 ++ us2 ∧ jKx l1 us1 ∧ jKx l2 us2 := by
 intro l1
 induction l1 with
 | nil => intro us h; exact ⟨[], us, rfl, trivial, h⟩
 | cons t1 l1 ih =>
  intro us h
  cases us with
  | nil => exact h.elim
  | cons u0 us =>
   obtain ⟨us1, us2, rfl, h3, h4⟩ := ih h.2
   exact ⟨u0 :: us1, us2, rfl, ⟨h.1, h3⟩, h4⟩
def qQt (a b : List (Nat × Nat)) : Prop := ∀ c ∈ a, ∀ c' ∈ b, c.1 ≠ c'.1
def BoxOk (b : Nat) (us : List (Nat × Value × Ent)) : Prop := (us.map (fun u => u.2.2.claims)).Pairwise qQt ∧ ∀ u ∈ us, ∀ c ∈ u.2.2.claims, c.1 ≠ b
def qQ1 (us : List (Nat × Value × Ent)) : List (Nat × Nat) := us.flatMap (fun u => u.2.2.claims)
def jV9 (b : Nat) (T : TypeId) (r : Rep α) (x : α) (us : List (Nat × Value × Ent)) : Ent where
 claims := (b, 0) :: qQ1 us
 ok := fun h m => (∃ cs, m b = some (.cells cs.toArray T (0, 0)) ∧ r.rel h cs x ∧ ∀ u ∈ us, cs[u.1]? = some u.2.1) ∧ ∀ u ∈ us, u.2.2.ok h m
 mono := by
  intro h h' m hl ⟨⟨cs, e, k, l⟩, q⟩
  exact ⟨⟨cs, e, r.mono hl k, l⟩, fun u hu => u.2.2.mono hl (q u hu)⟩
 frame := by
  intro h m m' hm ⟨⟨cs, e, k, l⟩, q⟩
  refine ⟨⟨cs, by rw [hm (b, 0) (by simp)]; exact e, k, l⟩, fun u hu => u.2.2.frame (fun c hc => hm c ?_) (q u hu)⟩
  exact List.mem_cons_of_mem _ (List.mem_flatMap.2 ⟨u, hu, hc⟩)
def jJ6 (T : TypeId) (r : Rep α) (x : α) (ts : List jJ4) : jX3 := fun v e => ∃ b us, v = .pointer (some ⟨b, 0, none⟩) ∧ jKx ts us ∧ BoxOk b us ∧ e = jV9 b T r x us
theorem St.split2 {κ : Type} {B : Base} {h : H} {L : Nat → Option Ent} {F : κ → Option Ent} {w : World} (hst : St B h (Sum.elim L F) w) {s d : Nat} {e e1 e2 : Ent} (hL : L s = some e) (_ : s ≠ d)
    (h1 : ∀ c ∈ e1.claims, c ∈ e.claims) (h2 : ∀ c ∈ e2.claims, c ∈ e.claims) (hd : qQt e1.claims e2.claims) (k1 : e1.ok h (World.mem w)) (k2 : e2.ok h (World.mem w)) :
    St B h (Sum.elim (set1 (set1 L s e1) d e2) F) w := by
  obtain ⟨hcl, _⟩ := hst.own (k := Sum.inl s) hL
  have hval : ∀ k e', set1 (set1 L s e1) d e2 k = some e' → (k = d ∧ e' = e2) ∨ (k = s ∧ e' = e1) ∨ (k ≠ s ∧ k ≠ d ∧ L k = some e') := by
    intro k e' hk
    unfold set1 at hk
    split at hk
    · rename_i hkd; exact .inl ⟨hkd, (Option.some.inj hk).symm⟩
    · rename_i hkd
      split at hk
      · rename_i hks; exact .inr (.inl ⟨hks, (Option.some.inj hk).symm⟩)
      · rename_i hks; exact .inr (.inr ⟨hks, hkd, hk⟩)
  refine ⟨hst.low, hst.base, fun x => hst.ext x, ?_, ?_, hst.mark, fun x i y => hst.nf x i y⟩
  · intro k e' hk
    cases k with
    | inr k => exact hst.own (k := Sum.inr k) hk
    | inl k =>
      rcases hval k e' hk with ⟨_, rfl⟩ | ⟨_, rfl⟩ | ⟨_, _, hk⟩
      · exact ⟨fun c hc => hcl c (h2 c hc), k2⟩
      · exact ⟨fun c hc => hcl c (h1 c hc), k1⟩
      · exact hst.own (k := Sum.inl k) hk
  · have other : ∀ (k : Nat ⊕ κ) e', Sum.elim L F k = some e' → k ≠ Sum.inl s → ∀ c ∈ e.claims, ∀ c' ∈ e'.claims, c.1 ≠ c'.1 := fun k e' hk hne => hst.disj (k := Sum.inl s) hL hk (Ne.symm hne)
    intro k k' a a' hk hk' hne c hc c' hc'
    cases k with
    | inr k =>
      cases k' with
      | inr k' => exact hst.disj (k := Sum.inr k) (k' := Sum.inr k') hk hk' hne c hc c' hc'
      | inl k' =>
        rcases hval k' a' hk' with ⟨_, rfl⟩ | ⟨_, rfl⟩ | ⟨h3, _, hk'⟩
        · exact (other (.inr k) a hk (by simp) c' (h2 _ hc') c hc).symm
        · exact (other (.inr k) a hk (by simp) c' (h1 _ hc') c hc).symm
        · exact hst.disj (k := Sum.inr k) (k' := Sum.inl k') hk hk' (by simp) c hc c' hc'
    | inl k =>
      cases k' with
      | inr k' =>
        rcases hval k a hk with ⟨_, rfl⟩ | ⟨_, rfl⟩ | ⟨h3, _, hk⟩
        · exact other (.inr k') a' hk' (by simp) c (h2 _ hc) c' hc'
        · exact other (.inr k') a' hk' (by simp) c (h1 _ hc) c' hc'
        · exact hst.disj (k := Sum.inl k) (k' := Sum.inr k') hk hk' (by simp) c hc c' hc'
      | inl k' =>
        have hne' : k ≠ k' := fun x => hne (by rw [x])
        rcases hval k a hk with ⟨e3, rfl⟩ | ⟨e3, rfl⟩ | ⟨h3, h4, hk2⟩ <;> rcases hval k' a' hk' with ⟨e4, rfl⟩ | ⟨e4, rfl⟩ | ⟨h5, h6, hk2'⟩
        · exact absurd (e3.trans e4.symm) hne'
        · exact (hd c' hc' c hc).symm
        · exact other (.inl k') a' hk2' (fun x => h5 (Sum.inl.inj x)) c (h2 _ hc) c' hc'
        · exact hd c hc c' hc'
        · exact absurd (e3.trans e4.symm) hne'
        · exact other (.inl k') a' hk2' (fun x => h5 (Sum.inl.inj x)) c (h1 _ hc) c' hc'
        · exact (other (.inl k) a hk2 (fun x => h3 (Sum.inl.inj x)) c' (h2 _ hc') c hc).symm
        · exact (other (.inl k) a hk2 (fun x => h3 (Sum.inl.inj x)) c' (h1 _ hc') c hc).symm
        · exact hst.disj (k := Sum.inl k) (k' := Sum.inl k') hk2 hk2' (fun x => hne' (Sum.inl.inj x)) c hc c' hc'
def jNz (L : Nat → Option Ent) (s d : Nat) (e : Ent) : Nat → Option Ent := fun k => if k = d then none else if k = s then some e else L k
theorem St.jNz {κ : Type} {B : Base} {h : H} {L : Nat → Option Ent} {F : κ → Option Ent} {w : World} (hst : St B h (Sum.elim L F) w) {s d : Nat} {e e1 e2 : Ent} (hL : L s = some e1) (hL2 : L d = some e2)
  (hc : ∀ c ∈ e.claims, c ∈ e1.claims ∨ c ∈ e2.claims) (ho : e.ok h (World.mem w)) : St B h (Sum.elim (jNz L s d e) F) w := by
 obtain ⟨hcl1, _⟩ := hst.own (k := Sum.inl s) hL
 obtain ⟨hcl2, _⟩ := hst.own (k := Sum.inl d) hL2
 have hval : ∀ k e', KB.jNz L s d e k = some e' → (k = s ∧ e' = e) ∨ (k ≠ s ∧ k ≠ d ∧ L k = some e') := by
  intro k e' hk
  unfold KB.jNz at hk
  split at hk
  ·cases hk
  ·rename_i hkd
   split at hk
   ·rename_i hks; exact .inl ⟨hks, (Option.some.inj hk).symm⟩
   ·rename_i hks; exact .inr ⟨hks, hkd, hk⟩
 refine ⟨hst.low, hst.base, fun x => hst.ext x, ?_, ?_, hst.mark, fun x i y => hst.nf x i y⟩
 ·intro k e' hk
  cases k with
  | inr k => exact hst.own (k := Sum.inr k) hk
  | inl k =>
   rcases hval k e' hk with ⟨_, rfl⟩ | ⟨_, _, hk⟩
   ·exact ⟨fun c hcc => (hc c hcc).elim (hcl1 c) (hcl2 c), ho⟩
   ·exact hst.own (k := Sum.inl k) hk
 ·have other : ∀ (k : Nat ⊕ κ) e', Sum.elim L F k = some e' → k ≠ Sum.inl s → k ≠ Sum.inl d → ∀ c ∈ e.claims, ∀ c' ∈ e'.claims, c.1 ≠ c'.1 := by
   intro k e' hk hn1 hn2 c hcc
   rcases hc c hcc with h1 | h1
   ·exact hst.disj (k := Sum.inl s) hL hk (Ne.symm hn1) c h1
   ·exact hst.disj (k := Sum.inl d) hL2 hk (Ne.symm hn2) c h1
  intro k k' a a' hk hk' hne c hcc c' hcc'
  cases k with
  | inr k =>
   cases k' with
   | inr k' => exact hst.disj (k := Sum.inr k) (k' := Sum.inr k') hk hk' hne c hcc c' hcc'
   | inl k' =>
    rcases hval k' a' hk' with ⟨_, rfl⟩ | ⟨h3, _, hk'⟩
    ·exact (other (.inr k) a hk (by simp) (by simp) c' hcc' c hcc).symm
    ·exact hst.disj (k := Sum.inr k) (k' := Sum.inl k') hk hk' (by simp) c hcc c' hcc'
  | inl k =>
   cases k' with
   | inr k' =>
    rcases hval k a hk with ⟨_, rfl⟩ | ⟨h3, _, hk⟩
    ·exact other (.inr k') a' hk' (by simp) (by simp) c hcc c' hcc'
    ·exact hst.disj (k := Sum.inl k) (k' := Sum.inr k') hk hk' (by simp) c hcc c' hcc'
   | inl k' =>
    have hne' : k ≠ k' := fun x => hne (by rw [x])
    rcases hval k a hk with ⟨e3, rfl⟩ | ⟨h3, h4, hk2⟩ <;> rcases hval k' a' hk' with ⟨e4, rfl⟩ | ⟨h5, h6, hk2'⟩
    ·exact absurd (e3.trans e4.symm) hne'
    ·exact other (.inl k') a' hk2' (fun x => h5 (Sum.inl.inj x)) (fun x => h6 (Sum.inl.inj x)) c hcc c' hcc'
    ·exact (other (.inl k) a hk2 (fun x => h3 (Sum.inl.inj x)) (fun x => h4 (Sum.inl.inj x)) c' hcc' c hcc).symm
    ·exact hst.disj (k := Sum.inl k) (k' := Sum.inl k') hk2 hk2' (fun x => hne' (Sum.inl.inj x)) c hcc c' hcc'
theorem jF1 {κ : Type} {B : Base} {h : H} {L : Nat → Option Ent} {F : κ → Option Ent} {w : World} (hst : St B h (Sum.elim L F) w) {s b : Nat} {T : TypeId} {r : Rep α} {x : α} {us : List (Nat × Value × Ent)}
  (hk : L s = some (jV9 b T r x us)) : (∃ cs, w.heap[b]? = some (.cells cs.toArray T (0, 0)) ∧ r.rel h cs x ∧ ∀ u ∈ us, cs[u.1]? = some u.2.1) ∧ ∀ u ∈ us, u.2.2.ok h (World.mem w) := (hst.own (k := Sum.inl s) hk).2
theorem jL9 {T T' : TypeId} {r : Rep α} {y : α} {ts : List jJ4} {s i off : Nat} (hf : jQj P T i off) (ho : o.op = .fieldAddr T (.tmp s) i) : jXg P o N [(s, jJ6 T' r y ts)] (jWs s off) [] := by
 intro κ B F L h a w hst hn hk _ next Q hnext _
 obtain ⟨e, _, b, us, hv, _⟩ := hk.1
 unfold Oper.wpK
 have hv' : a.eval (.tmp s) = .pointer (some ⟨b, 0, none⟩) := hv
 have : (execOp a.eval o).run P w = .ok (.value (.pointer (some ⟨b, off, none⟩))) w := by simp [execOp, ho, hv', hf b 0 w]
 rw [this]
 exact hnext _ h w L (Hle.refl h) ⟨b, hv, rfl⟩ hst jYb
theorem jQk {T T' : TypeId} {r : Rep α} {y : α} {ts : List jJ4} {s i off : Nat} {sv : Value} {x : Operand} (hf : jQj P T i off) (ho : o.op = .fieldAddr T x i) (hx : jJ9 N x (fIs sv)) : jXg P o N [(s, atV (jJ6 T' r y ts) sv)] (jZg sv off) [] := by
 intro κ B F L h a w hst hn hk _ next Q hnext _
 obtain ⟨e, _, b, us, hv, _⟩ := hk.1
 have hv' : a.eval x = .pointer (some ⟨b, 0, none⟩) := (hx h a hn : a.eval x = sv).trans hv
 unfold Oper.wpK
 have : (execOp a.eval o).run P w = .ok (.value (.pointer (some ⟨b, off, none⟩))) w := by simp [execOp, ho, hv', hf b 0 w]
 rw [this]
 exact hnext _ h w L (Hle.refl h) ⟨b, hv, rfl⟩ hst jYb
theorem jJ9.off0 {T' : TypeId} {r : Rep α} {y : α} {ts : List jJ4} {sv : Value} {x : Operand} {h : H} {a : Act} {e : Ent} (hx : jJ9 N x (fIs sv)) (hn : jPu N h a) (hk : jJ6 T' r y ts sv e) : ∃ b, sv = .pointer (some ⟨b, 0, none⟩) ∧ a.eval x = .pointer (some ⟨b, 0, none⟩) := by
 obtain ⟨b, us, hv, _⟩ := hk
 exact ⟨b, hv, (hx h a hn : a.eval x = sv).trans hv⟩
theorem jSb {T T' : TypeId} {r : Rep α} {q : Rep β} {ts : List jJ4} {s off : Nat} {x : Operand} {y : α} {get : α → β} {set : α → β → α} (l : Lens r q off get set) (t : jKu P T q) (W : Wr) (ho : o.op = .load T x) (hx : qYd N x W s off) :
  jXg P o N [(s, W.ap (jJ6 T' r y ts))] (fV q (get y)) [] := by
 intro κ B F L h a w hst hn hk _ next Q hnext _
 obtain ⟨b, hd, hv⟩ := hx h a hn
 obtain ⟨e, hL, hqW⟩ := hk.1
 obtain ⟨b', us, hv', _, _, rfl⟩ := Wr.iff.1 hqW
 have hd' : W.v a s = .pointer (some ⟨b, 0, none⟩) := hd
 rw [hd'] at hv'; cases hv'
 obtain ⟨⟨cs, hb, hr, _⟩, _⟩ := jF1 hst hL
 obtain ⟨c, hc, hrun⟩ := jU0 t l hb hr
 unfold Oper.wpK
 have : (execOp a.eval o).run P w = .ok (.value (pack q.agg c)) w := by simp [execOp, ho, hv, hrun]
 rw [this]
 exact hnext _ h w L (Hle.refl h) ⟨c, hc, rfl⟩ hst jYb
theorem jQ4 {sv : Value} {T T' : TypeId} {r : Rep α} {q : Rep β} {ts : List jJ4} {s off : Nat} {x : Operand} {y : α} {get : α → β} {set : α → β → α} (l : Lens r q off get set) (t : jKu P T q) (ho : o.op = .load T x) (hx : jJ9 N x (jZg sv off)) :
  jXg P o N [(s, atV (jJ6 T' r y ts) sv)] (fV q (get y)) [] := jSb l t (.val sv) ho (.val hx)
theorem jC5 {T T' : TypeId} {r : Rep α} {ts : List jJ4} {s : Nat} {y : α} (t : jKu P T r) (ho : o.op = .load T (.tmp s)) :
  jXg P o N [(s, jJ6 T' r y ts)] (fV r y) [] := by
 intro κ B F L h a w hst hn hk _ next Q hnext _
 obtain ⟨e, hL, b, us, hv, _, _, rfl⟩ := hk.1
 have hv' : a.eval (.tmp s) = .pointer (some ⟨b, 0, none⟩) := hv
 obtain ⟨⟨cs, hb, hr, _⟩, _⟩ := jF1 hst hL
 obtain ⟨c, hc, hrun⟩ := jU0 t (Lens.refl r) hb hr
 unfold Oper.wpK
 have : (execOp a.eval o).run P w = .ok (.value (pack r.agg c)) w := by simp [execOp, ho, hv', hrun]
 rw [this]
 exact hnext _ h w L (Hle.refl h) ⟨c, hc, rfl⟩ hst jYb
theorem jZf {T T' : TypeId} {r : Rep α} {ts : List jJ4} {s : Nat} {sv : Value} {y : α} {x : Operand} (t : jKu P T r) (ho : o.op = .load T x) (hx : jJ9 N x (fIs sv)) :
  jXg P o N [(s, atV (jJ6 T' r y ts) sv)] (fV r y) [] := by
 intro κ B F L h a w hst hn hk _ next Q hnext _
 obtain ⟨e, hL, b, us, hv, _, _, rfl⟩ := hk.1
 have hv' : a.eval x = .pointer (some ⟨b, 0, none⟩) := (hx h a hn : a.eval x = sv).trans hv
 obtain ⟨⟨cs, hb, hr, _⟩, _⟩ := jF1 hst hL
 obtain ⟨c, hc, hrun⟩ := jU0 t (Lens.refl r) hb hr
 unfold Oper.wpK
 have : (execOp a.eval o).run P w = .ok (.value (pack r.agg c)) w := by simp [execOp, ho, hv', hrun]
 rw [this]
 exact hnext _ h w L (Hle.refl h) ⟨c, hc, rfl⟩ hst jYb
def nilV : Value := .slice none 0 0
def jG3 (cs : List Value) : List jJ4 → Prop
 | [] => True
 | t :: ts => cs[t.off]? = some nilV ∧ jG3 cs ts
def jNp (ts : List jJ4) : List (Nat × Value × Ent) := ts.map (fun t => (t.off, nilV, jBp))
theorem jLh : ∀ (ts : List jJ4), jKx ts (jNp ts)
 | [] => trivial
 | _ :: ts => ⟨⟨rfl, .inl ⟨none, 0, rfl, rfl⟩⟩, jLh ts⟩
theorem jLb {ts : List jJ4} {u : Nat × Value × Ent} (hu : u ∈ jNp ts) : u.2.2 = jBp ∧ u.2.1 = nilV := by
 obtain ⟨t, _, rfl⟩ := List.mem_map.1 hu; exact ⟨rfl, rfl⟩
theorem jM2 (b : Nat) : ∀ (ts : List jJ4), BoxOk b (jNp ts)
 | [] => ⟨List.Pairwise.nil, fun u hu => by cases hu⟩
 | t :: ts => ⟨List.Pairwise.cons (fun l _ c hc => by cases hc) (jM2 b ts).1, fun u hu c hc => by rw [(jLb hu).1] at hc; cases hc⟩
theorem jM3 : ∀ (ts : List jJ4), qQ1 (jNp ts) = []
 | [] => rfl
 | _ :: ts => jM3 ts
theorem jG3.at {cs : List Value} : ∀ {ts : List jJ4}, jG3 cs ts → ∀ u ∈ jNp ts, cs[u.1]? = some u.2.1 := by
 intro ts
 induction ts with
 | nil => intro _ u hu; cases hu
 | cons t ts ih =>
  intro h u hu
  rcases List.mem_cons.1 hu with rfl | hu
  ·exact h.1
  ·exact ih h.2 u hu
theorem qZs {T : TypeId} {r : Rep α} {d : Nat} (ts : List jJ4) (t : jKu P T r) (hz : jG3 r.zc ts) (hd : o.dst = some d) (ho : o.op = .alloc T) : jXg P o N [] jJa.triv [(d, some (jJ6 T r r.zero ts))] := by
 intro κ B F L h a w hst hn _ hdn next Q hnext _
 unfold Oper.wpK
 have : (execOp a.eval o).run P w = .ok (.value (.pointer (some ⟨w.heap.size, 0, none⟩))) (w.alloc (.cells r.zc.toArray T)) := by
  simp [execOp, ho, Instr.alloc, t.zero, jBh (r.zrel h)]
 rw [this]
 refine hnext _ h _ (set1 L d (jV9 w.heap.size T r r.zero (jNp ts))) (Hle.refl h) trivial (hst.own_new _ d _ ?_ ⟨⟨_, jBy _ _, r.zrel h, hz.at⟩, fun u hu => by rw [(jLb hu).1]; trivial⟩) ?_
 ·intro c hc
  have : c ∈ (w.heap.size, 0) :: qQ1 (jNp ts) := hc
  rw [jM3] at this
  simp at this; rw [this]
 rw [hd]
 exact jW5 ⟨_, _, jQe (hdn d hd), jLh ts, jM2 _ ts, rfl⟩
def apartB (off sz : Nat) (ts : List jJ4) : Bool := ts.all (fun t => Nat.blt t.off off || Nat.ble (off + sz) t.off)
theorem jFe {off sz : Nat} {ts : List jJ4} (h : apartB off sz ts = true) : ∀ t ∈ ts, t.off < off ∨ off + sz ≤ t.off := by
 intro t ht
 have := List.all_eq_true.1 h t ht
 simpa [Nat.blt_eq] using this
theorem jSr {p c c' q : List Value} {off sz i : Nat} (hp : p.length = off) (hc : c.length = sz) (hc' : c'.length = sz) (h : i < off ∨ off + sz ≤ i) : (p ++ c' ++ q)[i]? = (p ++ c ++ q)[i]? := by
  rcases h with h | h
  · rw [List.append_assoc, List.append_assoc, List.getElem?_append_left (by omega), List.getElem?_append_left (by omega)]
  · rw [List.getElem?_append_right (by simp; omega), List.getElem?_append_right (by simp; omega)]
    congr 1; simp; omega
theorem qZ9 {h : H} {w w' : World} {b : Nat} {us : List (Nat × Value × Ent)} (hbo : BoxOk b us) (hw : ∀ i, i ≠ b → w'.heap[i]? = w.heap[i]?) (h2 : ∀ u ∈ us, u.2.2.ok h (World.mem w)) : ∀ u ∈ us, u.2.2.ok h (World.mem w') :=
 fun u hu => u.2.2.frame (fun c hc => hw c.1 (hbo.2 u hu c hc)) (h2 u hu)
theorem BoxOk.sub {b : Nat} {us us' : List (Nat × Value × Ent)} (h : us'.Sublist us) (hb : BoxOk b us) : BoxOk b us' :=
 ⟨hb.1.sublist (h.map _), fun u hu => hb.2 u (h.subset hu)⟩
theorem jAs {us us' : List (Nat × Value × Ent)} (h : us'.Sublist us) : ∀ c ∈ qQ1 us', c ∈ qQ1 us := by
 intro c hc
 obtain ⟨u, hu, hcu⟩ := List.mem_flatMap.1 hc
 exact List.mem_flatMap.2 ⟨u, h.subset hu, hcu⟩
theorem jLe {T T' : TypeId} {r : Rep α} {q : Rep β} {off : Nat} {y : α} {z : β} {get : α → β} {set : α → β → α} (l : Lens r q off get set) (t : jKu P T q) {κ : Type} {B : Base} {F : κ → Option Ent} {L : Nat → Option Ent} {h : H} {w : World} {s b : Nat} {us us' : List (Nat × Value × Ent)}
  (hst : St B h (Sum.elim L F) w) (hL : L s = some (jV9 b T' r y us)) (hbo : BoxOk b us) (hsub : us'.Sublist us) (hap : ∀ u ∈ us', u.1 < off ∨ off + q.sz ≤ u.1) {c' : List Value} (hc' : q.rel h c' z) :
  ∃ p c q' : List Value, p.length = off ∧ (Instr.storeAt T (.pointer (some ⟨b, off, none⟩)) (pack q.agg c')).run P w = .ok () (w.setRow b (p ++ c' ++ q').toArray) ∧ c.length = q.sz ∧
   (w.setRow b (p ++ c' ++ q').toArray).heap[b]? = some (.cells (p ++ c' ++ q').toArray T' (0, 0)) ∧ r.rel h (p ++ c' ++ q') (set y z) ∧ (∀ u ∈ us', (p ++ c' ++ q')[u.1]? = some u.2.1) ∧
   St B h (Sum.elim (set1 L s (jV9 b T' r (set y z) us')) F) (w.setRow b (p ++ c' ++ q').toArray) := by
 obtain ⟨⟨cs, hb, hr, hu1⟩, hu2⟩ := jF1 hst hL
 obtain ⟨p, c, q', rfl, hp, hc, hset⟩ := l h cs y hr
 have hrun := jK2 t hc' hb (q.len hc)
 rw [hp] at hrun
 have hmem := jHb w b _ (p ++ c' ++ q').toArray T' hb
 have hrel := hset h c' z (Hle.refl h) hc'
 have hget : ∀ u ∈ us', (p ++ c' ++ q')[u.1]? = some u.2.1 := fun u hu => by
  rw [jSr hp (q.len hc) (q.len hc') (hap u hu)]; exact hu1 u (hsub.subset hu)
 obtain ⟨hcl, _⟩ := hst.own (k := Sum.inl s) hL
 have hno := (hcl (b, 0) (by simp [jV9])).2.2
 refine ⟨p, c, q', hp, hrun, q.len hc, hmem, hrel, hget, ?_⟩
 refine hst.write (Sum.inl s) (e := jV9 b T' r y us) hL (b := b) (lo := 0) (by simp [jV9]) hmem (fun i hi => setRow_other w b i _ hi) (by simp [World.setRow]) rfl rfl rfl ?_ jUn ?_
 ·intro o' v hh; rw [hno o' (Nat.zero_le _)] at hh; cases hh
 ·intro e' he
  rw [jUt he]
  refine ⟨fun c hc => ?_, ⟨_, hmem, hrel, hget⟩, qZ9 (hbo.sub hsub) (fun i hi => setRow_other w b i _ hi) (fun u hu => hu2 u (hsub.subset hu))⟩
  rcases List.mem_cons.1 hc with rfl | hc
  ·exact List.mem_cons_self
  ·exact List.mem_cons_of_mem _ (jAs hsub c hc)
theorem qQu {T T' : TypeId} {r : Rep α} {q : Rep β} {ts : List jJ4} {s off : Nat} {x v : Operand} {y : α} {z : β} {get : α → β} {set : α → β → α} {y' : α} (l : Lens r q off get set) (t : jKu P T q) (hap : apartB off q.sz ts = true) (hd : o.dst = none)
  (W : Wr) (ho : o.op = .store T x v) (hx : qYd N x W s off) (hv : jJ9 N v (fV q z)) (hy' : y' = set y z) : jXg P o N [(s, W.ap (jJ6 T' r y ts))] jJa.triv [(s, some (W.ap (jJ6 T' r y' ts)))] := by
 subst hy'
 intro κ B F L h a w hst hn hk _ next Q hnext _
 obtain ⟨b, hdv, hxv⟩ := hx h a hn
 obtain ⟨e, hL, hqW⟩ := hk.1
 obtain ⟨b', us, hv', hta, hbo, rfl⟩ := Wr.iff.1 hqW
 have hd' : W.v a s = .pointer (some ⟨b, 0, none⟩) := hdv
 rw [hd'] at hv'; cases hv'
 obtain ⟨c', hc', hvv⟩ := hv h a hn
 obtain ⟨p, c, q', hp, hrun, _, _, _, _, hst'⟩ := jLe l t hst hL hbo (List.Sublist.refl us) (fun u hu => by
  obtain ⟨t, ht, e⟩ := hta.offs u hu; rw [e]; exact jFe hap t ht) hc'
 unfold Oper.wpK
 have : (execOp a.eval o).run P w = .ok .skip (w.setRow b (p ++ c' ++ q').toArray) := by
  simp only [execOp, ho, hxv, hvv, Sem.run_bind, hrun, Result.andThen_ok, Sem.run_pure]
 rw [this]
 refine hnext undef h _ _ (Hle.refl h) trivial hst' ?_
 rw [hd]
 exact jW5 (Wr.iff.2 ⟨b, us, hd', hta, hbo, rfl⟩)
theorem qJa {sv : Value} {T T' : TypeId} {r : Rep α} {q : Rep β} {ts : List jJ4} {s off : Nat} {x v : Operand} {y : α} {z : β} {get : α → β} {set : α → β → α} {y' : α} (l : Lens r q off get set) (t : jKu P T q) (hap : apartB off q.sz ts = true) (hd : o.dst = none)
  (ho : o.op = .store T x v) (hx : jJ9 N x (jZg sv off)) (hv : jJ9 N v (fV q z)) (hy' : y' = set y z) : jXg P o N [(s, atV (jJ6 T' r y ts) sv)] jJa.triv [(s, some (atV (jJ6 T' r y' ts) sv))] := qQu l t hap hd (.val sv) ho (.val hx) hv hy'
theorem jU1 {T T' : TypeId} {r : Rep α} {s : Nat} {sv : Value} {x v : Operand} {y z : α} (t : jKu P T r) (hd : o.dst = none) (ho : o.op = .store T x v) (hx : jJ9 N x (fIs sv)) (hv : jJ9 N v (fV r z)) :
  jXg P o N [(s, atV (jJ6 T' r y []) sv)] jJa.triv [(s, some (atV (jJ6 T' r z []) sv))] := by
 intro κ B F L h a w hst hn hk hdn next Q hnext _
 obtain ⟨e, hL, hq⟩ := hk.1
 obtain ⟨b, h1, h2⟩ := hx.off0 hn hq
 obtain ⟨b', us, hv', hta, hbo, rfl⟩ := hq
 rw [h1] at hv'; cases hv'
 obtain ⟨c', hc', hvv⟩ := hv h a hn
 obtain ⟨p, c, q', hp, hrun, _, _, _, _, hst'⟩ := jLe (Lens.refl r) t hst hL hbo (List.nil_sublist us) (fun u hu => by cases hu) hc'
 unfold Oper.wpK
 have : (execOp a.eval o).run P w = .ok .skip (w.setRow b (p ++ c' ++ q').toArray) := by
  simp only [execOp, ho, h2, hvv, Sem.run_bind, hrun, Result.andThen_ok, Sem.run_pure]
 rw [this]
 refine hnext undef h _ _ (Hle.refl h) trivial hst' ?_
 rw [hd]
 exact jW5 ⟨b, [], h1, trivial, ⟨List.Pairwise.nil, fun u hu => by cases hu⟩, rfl⟩
theorem BoxOk.nil {b off : Nat} {us1 us2 : List (Nat × Value × Ent)} (h : BoxOk b (us1 ++ us2)) : BoxOk b (us1 ++ (off, nilV, jBp) :: us2) := by
 obtain ⟨h1, h2⟩ := h
 constructor
 ·rw [List.map_append, List.pairwise_append] at h1 ⊢
  obtain ⟨k1, k2, k3⟩ := h1
  refine ⟨k1, List.Pairwise.cons (fun l _ c hc => by cases hc) k2, fun x hx y hy => ?_⟩
  rcases List.mem_cons.1 hy with rfl | hy
  ·intro c _ c' hc'; cases hc'
  ·exact k3 x hx y hy
 ·intro u hu c hc
  rcases List.mem_append.1 hu with hu | hu
  ·exact h2 u (List.mem_append_left _ hu) c hc
  ·rcases List.mem_cons.1 hu with rfl | hu
   ·cases hc
   ·exact h2 u (List.mem_append_right _ hu) c hc
theorem qYk {L : Nat → Option Ent} {s d : Nat} {e1 e2 : Ent} {q1 q2 : jX3} {a : Act} (hsd : s ≠ d) (h1 : q1 (a.gt s) e1) (h2 : q2 (a.gt d) e2) : jPy L (set1 (set1 L s e1) d e2) (full [(s, some q1), (d, some q2)] (some d)) a := by
  intro k
  have hsd' : Nat.beq s d = false := by rw [Bool.eq_false_iff, Ne, jWm]; exact hsd
  by_cases hk : k = d
  · subst hk
    have : lkU (full [(s, some q1), (k, some q2)] (some k)) k = some (some q2) := by simp [full, lkU, hsd', Nat.beq_refl]
    rw [this]; exact ⟨e2, by simp [set1], h2⟩
  · have h3 : Nat.beq d k = false := by rw [Bool.eq_false_iff, Ne, jWm]; exact fun x => hk x.symm
    by_cases hk2 : k = s
    · subst hk2
      have : lkU (full [(k, some q1), (d, some q2)] (some d)) k = some (some q1) := by simp [full, lkU, Nat.beq_refl]
      rw [this]; exact ⟨e1, by simp [set1, hk], h1⟩
    · have h4 : Nat.beq s k = false := by rw [Bool.eq_false_iff, Ne, jWm]; exact fun x => hk2 x.symm
      have : lkU (full [(s, some q1), (d, some q2)] (some d)) k = none := by simp [full, lkU, h3, h4]
      rw [this]; simp [set1, hk, hk2]
theorem jN6 {T T' E : TypeId} {r : Rep α} {q : Rep β} {l1 l2 : List jJ4} {s d off sz : Nat} {x : Operand} {y : α} {get : α → List β} {set : α → List β → α} (l : Lens r (Rep.slice q) off get set) (t : jKu P T (Rep.slice q)) (hsd : Nat.beq s d = false) (hd : o.dst = some d) (W : Wr) (ho : o.op = .load T x) (hx : qYd N x W s off) :
  jXg P o N [(s, W.ap (jJ6 T' r y (l1 ++ ⟨off, E, sz⟩ :: l2)))] (fV (Rep.slice q) (get y)) [(s, some (W.ap (jJ6 T' r y (l1 ++ l2)))), (d, some (jVl E sz))] := by
 have hne : s ≠ d := fun x => by rw [jWm.2 x] at hsd; cases hsd
 intro κ B F L h a w hst hn hk hdn next Q hnext _
 obtain ⟨b, hdv, hv⟩ := hx h a hn
 obtain ⟨e, hL, hqW⟩ := hk.1
 obtain ⟨b', us, hv', hta, hbo, rfl⟩ := Wr.iff.1 hqW
 have hd' : W.v a s = .pointer (some ⟨b, 0, none⟩) := hdv
 rw [hd'] at hv'; cases hv'
 obtain ⟨us1, u0, us2, rfl, hoff, htip, h3, h4⟩ := hta.mid
 simp only [] at hoff htip
 have hsub : (us1 ++ us2).Sublist (us1 ++ u0 :: us2) := (List.Sublist.refl us1).append (List.sublist_cons_self _ _)
 obtain ⟨⟨cs, hb, hr, hu1⟩, hu2⟩ := jF1 hst hL
 have hm0 : u0 ∈ us1 ++ u0 :: us2 := List.mem_append_right _ List.mem_cons_self
 obtain ⟨p, c, q', rfl, hp, hc, _⟩ := l h cs y hr
 have hcl := (Rep.slice q).len hc
 obtain ⟨c0, rfl, hc0⟩ := hc
 have hcv : c0 = u0.2.1 := by
  have := hu1 u0 hm0
  rw [hoff, List.append_assoc, List.getElem?_append_right (by omega), hp] at this
  simpa using this
 have hrun := jGp (b := b) (off := off) (w := w) t hcl (fun j v hj => by
  rw [jGn _ _ _ _ _ _ hb]
  have hjl := (List.getElem?_eq_some_iff.1 hj).1
  simp only [List.getElem?_toArray]
  rw [List.append_assoc, List.getElem?_append_right (by omega), ← hp, Nat.add_sub_cancel_left, List.getElem?_append_left hjl]; exact hj)
 unfold Oper.wpK
 have : (execOp a.eval o).run P w = .ok (.value c0) w := by
  have hrun' : (Instr.loadAt T (.pointer (some ⟨b, off, none⟩))).run P w = .ok c0 w := hrun
  simp [execOp, ho, hv, hrun']
 rw [this]
 have hpw := hbo.1
 rw [List.map_append, List.pairwise_append] at hpw
 obtain ⟨_, k2, k3⟩ := hpw
 have k4 := List.pairwise_cons.1 k2
 have hdis : qQt ((b, 0) :: qQ1 (us1 ++ us2)) u0.2.2.claims := by
  intro c hc c' hc'
  rcases List.mem_cons.1 hc with rfl | hc
  ·exact (hbo.2 u0 hm0 c' hc').symm
  ·obtain ⟨u, hu, hcu⟩ := List.mem_flatMap.1 hc
   rcases List.mem_append.1 hu with hu | hu
   ·exact k3 _ (List.mem_map.2 ⟨u, hu, rfl⟩) _ (List.mem_cons_self) c hcu c' hc'
   ·exact (k4.1 _ (List.mem_map.2 ⟨u, hu, rfl⟩) c' hc' c hcu).symm
 have hst' := hst.split2 (d := d) (e1 := jV9 b T' r y (us1 ++ us2)) (e2 := u0.2.2) hL hne (fun c hc => by
   rcases List.mem_cons.1 hc with rfl | hc
   ·exact List.mem_cons_self
   ·exact List.mem_cons_of_mem _ (jAs hsub c hc)) (fun c hc => List.mem_cons_of_mem _ (List.mem_flatMap.2 ⟨u0, hm0, hc⟩)) hdis
  ⟨⟨_, hb, hr, fun u hu => hu1 u (hsub.subset hu)⟩, fun u hu => hu2 u (hsub.subset hu)⟩ (hu2 u0 hm0)
 refine hnext _ h w _ (Hle.refl h) (jVp.2 hc0) hst' ?_
 rw [hd]
 exact qYk hne (Wr.iff.2 (by rw [Wr.v_put hne]; exact ⟨b, _, hd', h4.app h3, hbo.sub hsub, rfl⟩)) (by rw [jQe (hdn d hd), hcv]; exact htip)
theorem qJ5 {T T' E : TypeId} {r : Rep α} {q : Rep β} {l1 l2 : List jJ4} {s d off sz : Nat} {x : Operand} {y : α} {get : α → List β} {set : α → List β → α} (l : Lens r (Rep.slice q) off get set) (t : jKu P T (Rep.slice q)) (hsd : Nat.beq s d = false) (hd : o.dst = some d) (ho : o.op = .load T x) (hx : jJ9 N x (jWs s off)) :
  jXg P o N [(s, jJ6 T' r y (l1 ++ ⟨off, E, sz⟩ :: l2))] (fV (Rep.slice q) (get y)) [(s, some (jJ6 T' r y (l1 ++ l2))), (d, some (jVl E sz))] := jN6 l t hsd hd .slot ho (.slot hx)
theorem jCk {sv : Value} {T T' E : TypeId} {r : Rep α} {q : Rep β} {l1 l2 : List jJ4} {s d off sz : Nat} {x : Operand} {y : α} {get : α → List β} {set : α → List β → α} (l : Lens r (Rep.slice q) off get set) (t : jKu P T (Rep.slice q)) (hsd : Nat.beq s d = false) (hd : o.dst = some d) (ho : o.op = .load T x) (hx : jJ9 N x (jZg sv off)) :
  jXg P o N [(s, atV (jJ6 T' r y (l1 ++ ⟨off, E, sz⟩ :: l2)) sv)] (fV (Rep.slice q) (get y)) [(s, some (atV (jJ6 T' r y (l1 ++ l2)) sv)), (d, some (jVl E sz))] := jN6 l t hsd hd (.val sv) ho (.val hx)
theorem qZ5 {L : Nat → Option Ent} {s d : Nat} {e : Ent} {q : jX3} {a : Act} (hsd : s ≠ d) (hq : q (a.gt s) e) : jPy L (jNz L s d e) (full [(s, some q), (d, none)] none) a := by
  intro k
  by_cases hk : k = s
  · subst hk
    have : lkU (full [(k, some q), (d, none)] none) k = some (some q) := by simp [full, lkU, Nat.beq_refl]
    rw [this]; exact ⟨e, by simp [jNz, hsd], hq⟩
  · have h4 : Nat.beq s k = false := by rw [Bool.eq_false_iff, Ne, jWm]; exact fun x => hk x.symm
    by_cases hk2 : k = d
    · subst hk2
      have : lkU (full [(s, some q), (k, none)] none) k = some none := by simp [full, lkU, h4, Nat.beq_refl]
      rw [this]; trivial
    · have h3 : Nat.beq d k = false := by rw [Bool.eq_false_iff, Ne, jWm]; exact fun x => hk2 x.symm
      have : lkU (full [(s, some q), (d, none)] none) k = none := by simp [full, lkU, h3, h4]
      rw [this]; simp [jNz, hk, hk2]
theorem jMw {T T' E : TypeId} {r : Rep α} {q : Rep β} {l1 l2 : List jJ4} {s d off sz : Nat} {x : Operand} {y : α} {zs : List β} {get : α → List β} {set : α → List β → α} {y' : α} (l : Lens r (Rep.slice q) off get set) (t : jKu P T (Rep.slice q)) (hap : apartB off 1 (l1 ++ l2) = true) (hsd : Nat.beq s d = false) (hd : o.dst = none)
  (W : Wr) (ho : o.op = .store T x (.tmp d)) (hx : qYd N x W s off) (hv : jJ9 N (.tmp d) (fV (Rep.slice q) zs)) (hy' : y' = set y zs) : jXg P o N [(s, W.ap (jJ6 T' r y (l1 ++ l2))), (d, jVl E sz)] jJa.triv [(s, some (W.ap (jJ6 T' r y' (l1 ++ ⟨off, E, sz⟩ :: l2)))), (d, none)] := by
 subst hy'
 have hne : s ≠ d := fun x => by rw [jWm.2 x] at hsd; cases hsd
 intro κ B F L h a w hst hn hk _ next Q hnext _
 obtain ⟨b, hdv, hxv⟩ := hx h a hn
 obtain ⟨e, hL, hqW⟩ := hk.1
 obtain ⟨b', us, hv', hta, hbo, rfl⟩ := Wr.iff.1 hqW
 obtain ⟨et, hLt, htip⟩ := hk.2.1
 have hLt : L d = some et := hLt
 have htip : jVl E sz (a.gt d) et := htip
 have hd' : W.v a s = .pointer (some ⟨b, 0, none⟩) := hdv
 rw [hd'] at hv'; cases hv'
 obtain ⟨c', hc', hvv⟩ := hv h a hn
 have hvd : a.gt d = pack (Rep.slice q).agg c' := hvv
 obtain ⟨p, c, q', hp, hrun, hcl, hmem, hrel, hget, hst'⟩ := jLe l t hst hL hbo (List.Sublist.refl us) (fun u hu => by
  obtain ⟨t, ht, e⟩ := hta.offs u hu; rw [e]; exact jFe hap t ht) hc'
 obtain ⟨c0, rfl, hc0⟩ := hc'
 have hvd : a.gt d = c0 := hvd
 unfold Oper.wpK
 have : (execOp a.eval o).run P w = .ok .skip (w.setRow b (p ++ [c0] ++ q').toArray) := by
  simp only [execOp, ho, hxv, hvv, Sem.run_bind, hrun, Result.andThen_ok, Sem.run_pure]
 rw [this]
 obtain ⟨us1, us2, rfl, h3, h4⟩ := hta.cut
 have hta' : jKx (l1 ++ ⟨off, E, sz⟩ :: l2) (us1 ++ (off, c0, et) :: us2) := jKx.app (l2 := ⟨off, E, sz⟩ :: l2) (us2 := (off, c0, et) :: us2) ⟨⟨rfl, by rw [← hvd]; exact htip⟩, h4⟩ h3
 have hLd' : set1 L s (jV9 b T' r (set y zs) (us1 ++ us2)) d = some et := by simp [set1, Ne.symm hne, hLt]
 have hdj : qQt ((b, 0) :: qQ1 (us1 ++ us2)) et.claims := hst.disj (k := Sum.inl s) (k' := Sum.inl d) hL hLt (fun x => hne (Sum.inl.inj x))
 have hbo' : BoxOk b (us1 ++ (off, c0, et) :: us2) := by
  obtain ⟨g1, g2⟩ := hbo
  constructor
  ·rw [List.map_append, List.pairwise_append] at g1 ⊢
   obtain ⟨k1, k2, k3⟩ := g1
   refine ⟨k1, List.Pairwise.cons (fun l hl c hc c' hc' => ?_) k2, fun x hx y hy => ?_⟩
   ·obtain ⟨u, hu, rfl⟩ := List.mem_map.1 hl
    exact (hdj c' (List.mem_cons_of_mem _ (List.mem_flatMap.2 ⟨u, List.mem_append_right _ hu, hc'⟩)) c hc).symm
   ·rcases List.mem_cons.1 hy with rfl | hy
    ·intro c hc c' hc'
     obtain ⟨u, hu, rfl⟩ := List.mem_map.1 hx
     exact hdj c (List.mem_cons_of_mem _ (List.mem_flatMap.2 ⟨u, List.mem_append_left _ hu, hc⟩)) c' hc'
    ·exact k3 x hx y hy
  ·intro u hu c hc
   rcases List.mem_append.1 hu with hu | hu
   ·exact g2 u (List.mem_append_left _ hu) c hc
   ·rcases List.mem_cons.1 hu with rfl | hu
    ·exact (hdj (b, 0) List.mem_cons_self c hc).symm
    ·exact g2 u (List.mem_append_right _ hu) c hc
 obtain ⟨_, hu2⟩ := jF1 hst' jDx
 have hokt : et.ok h (World.mem (w.setRow b (p ++ [c0] ++ q').toArray)) := (hst'.own (k := Sum.inl d) hLd').2
 have hj := hst'.jNz (e := jV9 b T' r (set y zs) (us1 ++ (off, c0, et) :: us2)) jDx hLd' (fun c hc => by
  rcases List.mem_cons.1 hc with rfl | hc
  ·exact .inl List.mem_cons_self
  ·obtain ⟨u, hu, hcu⟩ := List.mem_flatMap.1 hc
   rcases List.mem_append.1 hu with hu | hu
   ·exact .inl (List.mem_cons_of_mem _ (List.mem_flatMap.2 ⟨u, List.mem_append_left _ hu, hcu⟩))
   ·rcases List.mem_cons.1 hu with rfl | hu
    ·exact .inr hcu
    ·exact .inl (List.mem_cons_of_mem _ (List.mem_flatMap.2 ⟨u, List.mem_append_right _ hu, hcu⟩))) ⟨⟨_, hmem, hrel, fun u hu => by
   rcases List.mem_append.1 hu with hu | hu
   ·exact hget u (List.mem_append_left _ hu)
   ·rcases List.mem_cons.1 hu with rfl | hu
    ·simp only []
     rw [List.append_assoc, List.getElem?_append_right (by omega), hp]; simp
    ·exact hget u (List.mem_append_right _ hu)⟩, fun u hu => by
   rcases List.mem_append.1 hu with hu | hu
   ·exact hu2 u (List.mem_append_left _ hu)
   ·rcases List.mem_cons.1 hu with rfl | hu
    ·exact hokt
    ·exact hu2 u (List.mem_append_right _ hu)⟩
 have hL' : jNz (set1 L s (jV9 b T' r (set y zs) (us1 ++ us2))) s d (jV9 b T' r (set y zs) (us1 ++ (off, c0, et) :: us2)) = jNz L s d (jV9 b T' r (set y zs) (us1 ++ (off, c0, et) :: us2)) := by
  funext k; unfold jNz set1
  by_cases h1 : k = d
  ·rw [if_pos h1, if_pos h1]
  ·rw [if_neg h1, if_neg h1]
   by_cases h2 : k = s
   ·rw [if_pos h2, if_pos h2]
   ·rw [if_neg h2, if_neg h2, if_neg h2]
 rw [hL'] at hj
 refine hnext undef h _ _ (Hle.refl h) trivial hj ?_
 rw [hd]
 exact qZ5 hne (Wr.iff.2 ⟨b, _, hd', hta', hbo', rfl⟩)
theorem jTe {T T' E : TypeId} {r : Rep α} {q : Rep β} {l1 l2 : List jJ4} {s d off sz : Nat} {x : Operand} {y : α} {zs : List β} {get : α → List β} {set : α → List β → α} {y' : α} (l : Lens r (Rep.slice q) off get set) (t : jKu P T (Rep.slice q)) (hap : apartB off 1 (l1 ++ l2) = true) (hsd : Nat.beq s d = false) (hd : o.dst = none)
  (ho : o.op = .store T x (.tmp d)) (hx : jJ9 N x (jWs s off)) (hv : jJ9 N (.tmp d) (fV (Rep.slice q) zs)) (hy' : y' = set y zs) : jXg P o N [(s, jJ6 T' r y (l1 ++ l2)), (d, jVl E sz)] jJa.triv [(s, some (jJ6 T' r y' (l1 ++ ⟨off, E, sz⟩ :: l2))), (d, none)] := jMw l t hap hsd hd .slot ho (.slot hx) hv hy'
theorem jS5 {sv : Value} {T T' E : TypeId} {r : Rep α} {q : Rep β} {l1 l2 : List jJ4} {s d off sz : Nat} {x : Operand} {y : α} {zs : List β} {get : α → List β} {set : α → List β → α} {y' : α} (l : Lens r (Rep.slice q) off get set) (t : jKu P T (Rep.slice q)) (hap : apartB off 1 (l1 ++ l2) = true) (hsd : Nat.beq s d = false) (hd : o.dst = none)
  (ho : o.op = .store T x (.tmp d)) (hx : jJ9 N x (jZg sv off)) (hv : jJ9 N (.tmp d) (fV (Rep.slice q) zs)) (hy' : y' = set y zs) : jXg P o N [(s, atV (jJ6 T' r y (l1 ++ l2)) sv), (d, jVl E sz)] jJa.triv [(s, some (atV (jJ6 T' r y' (l1 ++ ⟨off, E, sz⟩ :: l2)) sv)), (d, none)] := jMw l t hap hsd hd (.val sv) ho (.val hx) hv hy'
end Go.KB
namespace Go.KB
variable {P : Program} {o : Oper} {N : List (Nat × jJa)} {f : jJa} {α β : Type}
def jKq (P : Program) (T : TypeId) (i : Nat) : Option (TypeId × Nat) :=
 match P.underlying T with
 | some (.struct fs) => match fs[i]? with
  | some g => some (g.type, g.offset)
  | none => none
 | _ => none
theorem jR9 {T' : TypeId} {q : Rep β} (t : jKu P T' q) {h : H} {p c r : List Value} {y : β} (hc : q.rel h c y) (w : World) : (part T' (p ++ c ++ r).toArray p.length).run P w = .ok (pack q.agg c) w := by
 have hl := q.len hc
 unfold part
 cases ha : q.agg with
 | true =>
  simp only [Sem.run_bind, t.agg, ha, Result.andThen_ok, if_true, t.size, Sem.run_pure, pack, cond_true]
  congr 2
  simp only [List.extract_toArray, List.extract_eq_take_drop]
  congr 1
  rw [List.append_assoc, List.drop_left' rfl, show p.length + q.sz - p.length = c.length by omega, List.take_left' rfl]
 | false =>
  rw [q.one ha] at hl
  match c, hl with
  | [v], _ =>
   have : (p ++ [v] ++ r).toArray[p.length]? = some v := by simp
   simp only [Sem.run_bind, t.agg, ha, Result.andThen_ok, Bool.false_eq_true, if_false, this, Sem.run_pure, pack, cond_false]
theorem jD1 {T T' : TypeId} {r : Rep α} {q : Rep β} {x : Operand} {y : α} {i off : Nat} {get : α → β} {set : α → β → α} (l : Lens r q off get set) (hag : r.agg = true) (hf : jKq P T i = some (T', off)) (t : jKu P T' q) (ho : o.op = .field T x i) (hx : jJ9 N x (fV r y)) :
  jXg P o N [] (fV q (get y)) [] :=
 jXg.ofRun fun h a w _ n => by
  unfold jKq at hf
  split at hf
  ·rename_i fs hT
   split at hf
   ·rename_i g hg
    simp only [Option.some.injEq, Prod.mk.injEq] at hf
    obtain ⟨h1, h2⟩ := hf
    obtain ⟨cs, hr, hv⟩ := hx h a n
    obtain ⟨p, c, q', rfl, hp, hc, _⟩ := l h cs y hr
    rw [hag] at hv
    refine ⟨pack q.agg c, ?_, c, hc, rfl⟩
    have := jR9 t (p := p) (r := q') hc w
    rw [List.append_assoc] at this
    simp [execOp, ho, hv, pack, Instr.field, run_underlying hT, hg, asAgg, h1, h2, ← hp, this]
   ·cases hf
  ·cases hf
def fVN (r : Rep α) (x : α) (ts : List jJ4) : jJa := ⟨none, fun h _ v => ∃ cs, r.rel h cs x ∧ v = pack r.agg cs ∧ jG3 cs ts, fun hl ⟨cs, k, e, n⟩ => ⟨cs, r.mono hl k, e, n⟩⟩
theorem jG3.apart {p c c' q : List Value} {off sz : Nat} (hp : p.length = off) (hc : c.length = sz) (hc' : c'.length = sz) : ∀ {ts : List jJ4}, apartB off sz ts = true → jG3 (p ++ c ++ q) ts → jG3 (p ++ c' ++ q) ts := by
 intro ts
 induction ts with
 | nil => intro _ _; trivial
 | cons t ts ih =>
  intro ha hn
  have h1 := jFe ha t List.mem_cons_self
  refine ⟨by rw [jSr hp hc hc' h1]; exact hn.1, ih ?_ hn.2⟩
  unfold apartB at ha ⊢
  rw [List.all_cons, Bool.and_eq_true] at ha
  exact ha.2
def jCd (P : Program) (N : List (Nat × jJa)) (place : Nat → Option (Nat × Nat)) {α : Type} (r : Rep α) (ts : List jJ4) : List (Nat × Operand) → α → α → Prop
 | [], x, y => x = y
 | (i, o) :: rest, x, y => ∃ (β : Type) (s : Rep β) (off : Nat) (get : α → β) (set : α → β → α) (z : β), Lens r s off get set ∧ place i = some (off, s.sz) ∧ apartB off s.sz ts = true ∧ jJ9 N o (fV s z) ∧ jCd P N place r ts rest (set x z) y
theorem qY0 {place : Nat → Option (Nat × Nat)} {r : Rep α} {ts : List jJ4} {x : α} : jCd P N place r ts [] x x := rfl
theorem jNy {place : Nat → Option (Nat × Nat)} {r : Rep α} {ts : List jJ4} {s : Rep β} {off i : Nat} {x' : Operand} {get : α → β} {set : α → β → α} {z : β} {rest : List (Nat × Operand)} {x y : α} (l : Lens r s off get set) (hp : place i = some (off, s.sz)) (ha : apartB off s.sz ts = true) (ho : jJ9 N x' (fV s z))
  (k : jCd P N place r ts rest (set x z) y) : jCd P N place r ts ((i, x') :: rest) x y := ⟨β, s, off, get, set, z, l, hp, ha, ho, k⟩
theorem jCd.run {place : Nat → Option (Nat × Nat)} {r : Rep α} {ts : List jJ4} {h : H} {a : Act} (n : jPu N h a) : ∀ {parts : List (Nat × Operand)} {x y : α} {cs : List Value}, jCd P N place r ts parts x y → r.rel h cs x → jG3 cs ts →
  ∃ cs', Instr.fill place cs.toArray (parts.map fun q => (q.1, a.eval q.2)) = some cs'.toArray ∧ r.rel h cs' y ∧ jG3 cs' ts := by
 intro parts
 induction parts with
 | nil => intro x y cs k hr ht; rw [show x = y from k] at hr; exact ⟨cs, rfl, hr, ht⟩
 | cons q rest ih =>
  obtain ⟨i, op⟩ := q
  rintro x y cs ⟨β, s, off, get, set, z, l, hp, ha, ho, k⟩ hr ht
  obtain ⟨p, c, q, rfl, hpl, hc, hset⟩ := l h cs x hr
  obtain ⟨c', hc', hv⟩ := ho h a n
  simp only [List.map_cons]
  rw [jTd hc' hv hp hpl (s.len hc)]
  exact ih k (hset h c' z (Hle.refl h) hc') (ht.apart hpl (s.len hc) (s.len hc') ha)
theorem jS2 {T : TypeId} {r : Rep α} {place : Nat → Option (Nat × Nat)} {parts : Array (Nat × Operand)} {y : α} (ts : List jJ4) (t : jKu P T r) (hag : r.agg = true) (hpl : jVs P T place) (ho : o.op = .build T parts)
  (hz : jG3 r.zc ts) (k : jCd P N place r ts parts.toList r.zero y) : jXg P o N [] (fVN r y ts) [] :=
 jXg.ofRun fun h a w _ n => by
  obtain ⟨cs', hf, hr, ht⟩ := k.run n (r.zrel h) hz
  refine ⟨.agg cs'.toArray, ?_, cs', hr, by rw [hag]; rfl, ht⟩
  have h1 := hpl r.zc.toArray (parts.map fun q => (q.1, a.eval q.2)) w cs'.toArray _ (t.zero w) (jU2 (r.zrel h)) (by rw [Array.toList_map]; exact hf)
  simp only [execOp, ho, Sem.run_bind, h1, Result.andThen_ok, Sem.run_pure]
theorem St.putT {κ : Type} {B : Base} {h : H} {L : Nat → Option Ent} {F : κ → Option Ent} {w : World} (hst : St B h (Sum.elim L F) w) {s b : Nat} {T : TypeId} {r : Rep α} {x y : α} {us : List (Nat × Value × Ent)} {cs cs' : List Value} {ts : List jJ4}
  (hk : L s = some (jV9 b T r x us)) (hb : w.heap[b]? = some (.cells cs.toArray T (0, 0))) (hr : r.rel h cs' y) (ht : jG3 cs' ts) :
  St B h (Sum.elim (set1 L s (jV9 b T r y (jNp ts))) F) (w.setRow b cs'.toArray) := by
 obtain ⟨hcl, _⟩ := hst.own (k := Sum.inl s) hk
 have hno := (hcl (b, 0) (by simp [jV9])).2.2
 have hmem := jHb w b _ cs'.toArray T hb
 refine hst.write (Sum.inl s) (e := jV9 b T r x us) hk (b := b) (lo := 0) (by simp [jV9]) hmem (fun i hi => setRow_other w b i cs'.toArray hi) (by simp [World.setRow]) rfl rfl rfl ?_ jUn ?_
 ·intro o' v hh
  rw [hno o' (Nat.zero_le _)] at hh; cases hh
 ·intro e' he
  rw [jUt he]
  refine ⟨fun c hc => ?_, ⟨cs', hmem, hr, ht.at⟩, fun u hu => by rw [(jLb hu).1]; trivial⟩
  have hc : c ∈ (b, 0) :: qQ1 (jNp ts) := hc
  rw [jM3] at hc
  simp at hc
  subst hc
  exact List.mem_cons_self
theorem jSs {T : TypeId} {r : Rep α} {ts0 ts : List jJ4} {s : Nat} {v : Operand} {y z : α} (t : jKu P T r) (hd : o.dst = none)
  (ho : o.op = .store T (.tmp s) v) (hv : jJ9 N v (fVN r z ts)) : jXg P o N [(s, jJ6 T r y ts0)] jJa.triv [(s, some (jJ6 T r z ts))] := by
 intro κ B F L h a w hst hn hk _ next Q hnext _
 obtain ⟨e, hL, b, us, hxv, _, _, rfl⟩ := hk.1
 have hxv' : a.eval (.tmp s) = .pointer (some ⟨b, 0, none⟩) := hxv
 obtain ⟨⟨cs, hb, hr, _⟩, _⟩ := jF1 hst hL
 obtain ⟨c', hc', hvv, ht⟩ := hv h a hn
 have hrun := jK2 (p := []) (c := cs) (q := []) t hc' (by simpa using hb) (r.len hr)
 unfold Oper.wpK
 have : (execOp a.eval o).run P w = .ok .skip (w.setRow b c'.toArray) := by
  simp only [List.length_nil, List.nil_append, List.append_nil] at hrun
  simp only [execOp, ho, hxv', hvv, Sem.run_bind, hrun, Result.andThen_ok, Sem.run_pure]
 rw [this]
 refine hnext undef h _ _ (Hle.refl h) trivial (hst.putT hL hb hc' ht) ?_
 rw [hd]
 exact jW5 ⟨b, _, hxv, jLh ts, jM2 b ts, rfl⟩
end Go.KB
namespace Go.KB
variable {P : Program} {o : Oper} {N : List (Nat × jJa)} {α β : Type}
section
variable [DecidableEq α]
def jXm (z : β) : List (α × β) → α → β
 | [], _ => z
 | p :: r, x => bif decide (x = p.1) then p.2 else jXm z r x
def mhas : List (α × β) → α → Bool
 | [], _ => false
 | p :: r, x => decide (x = p.1) || mhas r x
def jHg : List (α × β) → α → β → List (α × β)
 | [], x, y => [(x, y)]
 | p :: r, x, y => bif decide (x = p.1) then (p.1, y) :: r else p :: jHg r x y
def jR6 : List α → α → Option Nat
 | [], _ => none
 | y :: r, x => bif decide (x = y) then some 0 else (jR6 r x).map (· + 1)
structure jBd (P : Program) (K : TypeId) (rk : Rep α) (f : α → Value) : Prop where
 is : ∀ {h u x}, rk.val h u x → u = f x
 chk : ∀ (e : Bool) (w : World) (x : α), (Instr.checkKey e 10000 K (f x)).run P w = .ok () w
 find : ∀ (es : List MapEntry) (ks : List α) (x : α) (w : World), es.map (·.key) = ks.map f → (Instr.findKey K (f x) es).run P w = .ok ((jR6 ks x).bind fun i => es[i]?.map fun e => (i, e.val)) w
 bits : ∀ x, Instr.sameBits 10000 (f x) (f x) = true
 val : ∀ h x, rk.val h (f x) x
theorem jMj {f : α → Value} {d : TypeDesc} (hd : ∀ x y, Instr.sameNow d (f x) (f y) = some (decide (x = y))) (x : α) : ∀ (es : List MapEntry) (ks : List α) (n : Nat), es.map (·.key) = ks.map f →
  Instr.findNow d (f x) es n = some ((jR6 ks x).bind fun i => es[i]?.map fun e => (n + i, e.val))
 | [], [], _, _ => rfl
 | [], _ :: _, _, h => by cases h
 | _ :: _, [], _, h => by cases h
 | e :: es, y :: ks, n, h => by
  simp only [List.map_cons, List.cons.injEq] at h
  by_cases hx : x = y
  ·simp only [Instr.findNow, h.1, hd, hx, decide_true, jR6, cond_true]; rfl
  ·simp only [Instr.findNow, h.1, hd, decide_eq_false hx, jR6, cond_false]
   rw [jMj hd x es ks (n + 1) h.2]
   cases jR6 ks x with
   | none => rfl
   | some i => simp only [Option.map_some, Option.bind_some, List.getElem?_cons_succ]; rw [show n + 1 + i = n + (i + 1) by omega]
theorem run_findKey {K : TypeId} {d : TypeDesc} {u : Value} {es : List MapEntry} {r : Option (Nat × Value)} {w : World} (hd : P.underlying K = some d) (h : Instr.findNow d u es 0 = some r) : (Instr.findKey K u es).run P w = .ok r w := by
 unfold Instr.findKey
 simp only [Sem.run_bind, run_underlying hd, Result.andThen_ok, h, Sem.run_pure]
theorem jP1 {K : TypeId} {f : α → Value} {d : TypeDesc} (hK : P.underlying K = some d) (hd : ∀ x y, Instr.sameNow d (f x) (f y) = some (decide (x = y))) (es : List MapEntry) (ks : List α) (x : α) (w : World) (h : es.map (·.key) = ks.map f) :
  (Instr.findKey K (f x) es).run P w = .ok ((jR6 ks x).bind fun i => es[i]?.map fun e => (i, e.val)) w :=
 run_findKey hK (by simpa using jMj hd x es ks 0 h)
theorem jMk {K : TypeId} {f : α → Value} (hq : ∀ x y w, (Op.equal K (f x) (f y)).run P w = .ok (decide (x = y)) w) (x : α) (w : World) : ∀ (es : List MapEntry) (ks : List α) (n : Nat), es.map (·.key) = ks.map f →
  (Instr.findAsking K (f x) es n).run P w = .ok ((jR6 ks x).bind fun i => es[i]?.map fun e => (n + i, e.val)) w
 | [], [], _, _ => rfl
 | [], _ :: _, _, h => by cases h
 | _ :: _, [], _, h => by cases h
 | e :: es, y :: ks, n, h => by
  simp only [List.map_cons, List.cons.injEq] at h
  by_cases hx : x = y
  ·simp only [Instr.findAsking, h.1, Sem.run_bind, hq, Result.andThen_ok, hx, decide_true, jR6, cond_true, if_true]; rfl
  ·simp only [Instr.findAsking, h.1, Sem.run_bind, hq, Result.andThen_ok, decide_eq_false hx, jR6, cond_false, Bool.false_eq_true, if_false]
   rw [jMk hq x w es ks (n + 1) h.2]
   cases jR6 ks x with
   | none => rfl
   | some i => simp only [Option.map_some, Option.bind_some, List.getElem?_cons_succ]; rw [show n + 1 + i = n + (i + 1) by omega]
theorem qXh {K : TypeId} {f : α → Value} {d : TypeDesc} (hK : P.underlying K = some d) (hn : ∀ x y, Instr.sameNow d (f x) (f y) = none) (hq : ∀ x y w, (Op.equal K (f x) (f y)).run P w = .ok (decide (x = y)) w)
  (es : List MapEntry) (ks : List α) (x : α) (w : World) (h : es.map (·.key) = ks.map f) :
  (Instr.findKey K (f x) es).run P w = .ok ((jR6 ks x).bind fun i => es[i]?.map fun e => (i, e.val)) w := by
 cases es with
 | nil => cases ks with
  | nil => exact run_findKey hK rfl
  | cons y r => cases h
 | cons e r =>
  have h1 : Instr.findNow d (f x) (e :: r) 0 = none := by
   cases ks with
   | nil => cases h
   | cons y ks =>
    simp only [List.map_cons, List.cons.injEq] at h
    simp only [Instr.findNow, h.1, hn]
  unfold Instr.findKey
  simp only [Sem.run_bind, run_underlying hK, Result.andThen_ok, h1]
  simpa using jMk hq x w (e :: r) ks 0 h
def jXc (s : Str) : Value := .string ⟨s.toArray⟩
theorem jBd.str {K : TypeId} (hK : P.underlying K = some .string) : jBd P K Rep.str jXc where
 is := fun e => jVz.1 e
 chk := fun e w x => MapKept.run_checkKey hK (by trivial) e 9999
 find := jP1 hK fun x y => by
  simp only [Instr.sameNow, jXc]
  congr 1
  rw [Bool.eq_iff_iff, MapKept.bytes_beq]
  simp
 bits := fun x => (MapKept.bytes_beq _ _).2 rfl
 val := fun _ _ => jVz.2 rfl
def jXj (k : IntKind) (n : Int) : Value := .int k n
theorem jBd.int {K : TypeId} {k : IntKind} (hK : P.underlying K = some (.int k)) : jBd P K (Rep.int k) (jXj k) where
 is := fun e => jXk.1 e
 chk := fun e w x => MapKept.run_checkKey hK (by trivial) e 9999
 find := jP1 hK fun x y => by
  simp only [Instr.sameNow, jXj, if_true]
  congr 1
 bits := fun x => by simp [Instr.sameBits, jXj]
 val := fun _ _ => jXk.2 rfl
end
def jMc (f : α → Value) (rv : Rep β) (h : H) : List MapEntry → List (α × β) → Prop
 | [], [] => True
 | e :: es, p :: l => (e.key = f p.1 ∧ rv.val h e.val p.2) ∧ jMc f rv h es l
 | _, _ => False
theorem jMc.mono {f : α → Value} {rv : Rep β} {h h' : H} (hl : Hle h h') : ∀ {es : List MapEntry} {l : List (α × β)}, jMc f rv h es l → jMc f rv h' es l
 | [], [], _ => trivial
 | _ :: _, _ :: _, ⟨⟨a, b⟩, c⟩ => ⟨⟨a, rv.val_mono hl b⟩, jMc.mono hl c⟩
theorem jMc.keys {f : α → Value} {rv : Rep β} {h : H} : ∀ {es : List MapEntry} {l : List (α × β)}, jMc f rv h es l → es.map (·.key) = (l.map (·.1)).map f
 | [], [], _ => rfl
 | _ :: _, _ :: _, ⟨⟨a, _⟩, c⟩ => by simp only [List.map_cons, a, jMc.keys c]
theorem jMc.snoc {f : α → Value} {rv : Rep β} {h : H} {e : MapEntry} {p : α × β} (he : e.key = f p.1 ∧ rv.val h e.val p.2) : ∀ {es : List MapEntry} {l : List (α × β)}, jMc f rv h es l → jMc f rv h (es ++ [e]) (l ++ [p])
 | [], [], _ => ⟨he, trivial⟩
 | _ :: _, _ :: _, ⟨a, c⟩ => ⟨a, jMc.snoc he c⟩
def jFr (es : List MapEntry) (c : Nat) : Prop := (es.map (·.born)).Nodup ∧ ∀ e ∈ es, e.born < c
theorem jFr.push {es : List MapEntry} {c : Nat} {k v : Value} (h : jFr es c) : jFr (es ++ [{ key := k, val := v, born := c }]) (c + 1) := by
 refine ⟨?_, fun e he => ?_⟩
 ·rw [List.map_append, List.nodup_append]
  refine ⟨h.1, by simp, fun a ha b hb => ?_⟩
  obtain ⟨e, he, rfl⟩ := List.mem_map.1 ha
  simp only [List.map_cons, List.map_nil, List.mem_singleton] at hb
  have := h.2 e he
  omega
 ·rcases List.mem_append.1 he with he | he
  ·have := h.2 e he; omega
  ·simp only [List.mem_singleton] at he; subst he; exact Nat.lt_succ_self _
theorem jFr.modify {es : List MapEntry} {c j : Nat} {g : MapEntry → MapEntry} (hg : ∀ e, (g e).born = e.born) (h : jFr es c) : jFr (es.modify j g) c := by
 have hm : (es.modify j g).map (·.born) = es.map (·.born) := by
  refine List.ext_getElem? fun m => ?_
  simp only [List.getElem?_map, List.getElem?_modify]
  cases es[m]? with
  | none => rfl
  | some e => simp only [Option.map_some]; split <;> simp [hg]
 refine ⟨by rw [hm]; exact h.1, fun e he => ?_⟩
 have : e.born ∈ (es.modify j g).map (·.born) := List.mem_map.2 ⟨e, he, rfl⟩
 rw [hm] at this
 obtain ⟨e', he', hb⟩ := List.mem_map.1 this
 rw [← hb]; exact h.2 e' he'
def jDk (b : Nat) (f : α → Value) (rv : Rep β) (l : List (α × β)) : Ent where
 claims := [(b, 0)]
 ok := fun h m => ∃ es clock, m b = some (.map es clock) ∧ jMc f rv h es.toList l ∧ jFr es.toList clock
 mono := by rintro h h' m hl ⟨es, c, e, k⟩; exact ⟨es, c, e, k.1.mono hl, k.2⟩
 frame := fun hm ⟨es, c, e, k⟩ => ⟨es, c, by rw [hm (b, 0) (by simp)]; exact e, k⟩
def jJ0 (f : α → Value) (rv : Rep β) (l : List (α × β)) : jX3 := fun v e => ∃ b, v = .map (some b) ∧ e = jDk b f rv l
theorem jK9 {T : TypeId} {f : α → Value} {rv : Rep β} {d : Nat} (hd : o.dst = some d) (ho : o.op = .makeMap T none) : jXg P o N [] jJa.triv [(d, some (jJ0 f rv []))] := by
 intro κ B F L h a w hst hn _ hdn next Q hnext _
 unfold Oper.wpK
 have : (execOp a.eval o).run P w = .ok (.value (.map (some w.heap.size))) (w.alloc (.map #[] 0)) := by
  have e : (Instr.makeMap T none).run P w = .ok (.map (some w.heap.size)) (w.alloc (.map #[] 0)) := rfl
  simp only [execOp, ho, Option.map_none, Sem.run_bind, e, Result.andThen_ok, Sem.run_pure]
 rw [this]
 refine hnext _ h _ (set1 L d (jDk w.heap.size f rv [])) (Hle.refl h) trivial (hst.own_new _ d _ (by simp [jDk]) ⟨#[], 0, jBy _ _, trivial, by simp [jFr]⟩) ?_
 rw [hd]
 exact jW5 ⟨_, jQe (hdn d hd), rfl⟩
theorem map_at {κ : Type} {B : Base} {h : H} {L : Nat → Option Ent} {F : κ → Option Ent} {w : World} (hst : St B h (Sum.elim L F) w) {s b : Nat} {f : α → Value} {rv : Rep β} {l : List (α × β)}
  (hk : L s = some (jDk b f rv l)) : ∃ es clock, w.heap[b]? = some (.map es clock) ∧ jMc f rv h es.toList l :=
 let ⟨es, c, h1, h2, _⟩ := (hst.own (k := Sum.inl s) hk).2
 ⟨es, c, h1, h2⟩
theorem qU3 {κ : Type} {B : Base} {h : H} {L : Nat → Option Ent} {F : κ → Option Ent} {w : World} (hst : St B h (Sum.elim L F) w) {s b : Nat} {f : α → Value} {rv : Rep β} {l : List (α × β)}
  (hk : L s = some (jDk b f rv l)) : ∃ es clock, w.heap[b]? = some (.map es clock) ∧ jMc f rv h es.toList l ∧ jFr es.toList clock := (hst.own (k := Sum.inl s) hk).2
section
variable [DecidableEq α]
theorem jR3 {f : α → Value} {rv : Rep β} {h : H} (x : α) : ∀ {es : List MapEntry} {l : List (α × β)}, jMc f rv h es l →
    (jR6 (l.map (·.1)) x = none ∧ mhas l x = false ∧ (∀ z, jXm z l x = z) ∧ ∀ y, jHg l x y = l ++ [(x, y)]) ∨
    ∃ i e0, jR6 (l.map (·.1)) x = some i ∧ es[i]? = some e0 ∧ e0.key = f x ∧ mhas l x = true ∧ (∀ z, rv.val h e0.val (jXm z l x)) ∧
      ∀ g y, (∀ e, (g e).key = e.key) → (∀ e, rv.val h (g e).val y) → jMc f rv h (es.modify i g) (jHg l x y)
  | [], [], _ => .inl ⟨rfl, rfl, fun _ => rfl, fun _ => rfl⟩
  | e :: es, p :: l, ⟨⟨hk, hv⟩, hr⟩ => by
    by_cases hx : x = p.1
    · refine .inr ⟨0, e, ?_, rfl, by rw [hk, hx], by simp [mhas, hx], fun z => by simpa [jXm, hx] using hv, fun g y hg hy => ?_⟩
      · simp only [List.map_cons, jR6, hx, decide_true, cond_true]
      · simp only [List.modify_zero_cons, jHg, hx, decide_true, cond_true]
        exact ⟨⟨by rw [hg, hk], hy e⟩, hr⟩
    · rcases jR3 x hr with ⟨h1, h2, h3, h4⟩ | ⟨i, e0, h1, h2, h3, h4, h5, h6⟩
      · exact .inl ⟨by simp [jR6, hx, h1], by simp [mhas, hx, h2], fun z => by simp [jXm, hx, h3], fun y => by simp [jHg, hx, h4]⟩
      · refine .inr ⟨i + 1, e0, by simp [jR6, hx, h1], by simpa using h2, h3, by simp [mhas, h4], fun z => by simpa [jXm, hx] using h5 z, fun g y hg hy => ?_⟩
        simp only [List.modify_succ_cons, jHg, hx, decide_false, cond_false]
        exact ⟨⟨hk, hv⟩, h6 g y hg hy⟩
theorem jSe {K : TypeId} {rk : Rep α} {f : α → Value} (hf : jBd P K rk f) {rv : Rep β} {h : H} {es : List MapEntry} {l : List (α × β)} (hr : jMc f rv h es l) {x : α} (h1 : jR6 (l.map (·.1)) x = none) (w : World) : (Instr.findKey K (f x) es).run P w = .ok none w := by
 rw [hf.find _ _ x w hr.keys, h1]; rfl
theorem jSc {K : TypeId} {rk : Rep α} {f : α → Value} (hf : jBd P K rk f) {rv : Rep β} {h : H} {es : List MapEntry} {l : List (α × β)} (hr : jMc f rv h es l) {x : α} {i : Nat} {e0 : MapEntry} (h1 : jR6 (l.map (·.1)) x = some i) (h2 : es[i]? = some e0) (w : World) : (Instr.findKey K (f x) es).run P w = .ok (some (i, e0.val)) w := by
 rw [hf.find _ _ x w hr.keys, h1, Option.bind_some, h2]; rfl
end
section
variable [DecidableEq α]
theorem jRv {T K E : TypeId} {rk : Rep α} {f : α → Value} {rv : Rep β} {s : Nat} {x i : Operand} {l : List (α × β)} {y : α} (hf : jBd P K rk f) (t : jKu P E rv) (hT : P.underlying T = some (.map K E))
  (W : Wr) (ho : o.op = .lookup T x i false) (hx : OpdW N x W s) (hi : jJ9 N i (fV rk y)) : jXg P o N [(s, W.ap (jJ0 f rv l))] (fV rv (jXm rv.zero l y)) [] := by
 intro κ B F L h a w hst hn hk _ next Q hnext _
 obtain ⟨e, hL, hq⟩ := hk.1
 obtain ⟨b, hv, rfl⟩ := Wr.iff.1 hq
 have hx' : a.eval x = .map (some b) := (hx h a hn).trans hv
 have hi' := hf.is (hi h a hn)
 obtain ⟨es, clock, hb, hr⟩ := map_at hst hL
 rcases jR3 y hr with ⟨h1, _, h3, _⟩ | ⟨j, e0, h1, h2, _, _, h5, _⟩
 ·have : (execOp a.eval o).run P w = .ok (.value (pack rv.agg rv.zc)) w := by
   simp [execOp, ho, hx', hi', Instr.lookup, run_underlying hT, MapKept.run_getObj_map hb, hf.chk, jSe hf hr h1, t.zero]
  unfold Oper.wpK
  rw [this]
  exact hnext _ h w L (Hle.refl h) ⟨rv.zc, by rw [h3]; exact rv.zrel h, rfl⟩ hst jYb
 ·have : (execOp a.eval o).run P w = .ok (.value e0.val) w := by
   simp [execOp, ho, hx', hi', Instr.lookup, run_underlying hT, MapKept.run_getObj_map hb, hf.chk, jSc hf hr h1 h2]
  unfold Oper.wpK
  rw [this]
  exact hnext _ h w L (Hle.refl h) (h5 _) hst jYb
theorem jBe {T K E : TypeId} {rk : Rep α} {f : α → Value} {rv : Rep β} {s : Nat} {x i : Operand} {l : List (α × β)} {y : α} (hf : jBd P K rk f) (t : jKu P E rv) (hT : P.underlying T = some (.map K E))
  (ho : o.op = .lookup T x i false) (hx : jJ9 N x (fCp s)) (hi : jJ9 N i (fV rk y)) : jXg P o N [(s, jJ0 f rv l)] (fV rv (jXm rv.zero l y)) [] := jRv hf t hT .slot ho (.slot hx) hi
theorem jUj {T K E : TypeId} {rk : Rep α} {f : α → Value} {rv : Rep β} {s : Nat} {sv : Value} {x i : Operand} {l : List (α × β)} {y : α} (hf : jBd P K rk f) (t : jKu P E rv) (hT : P.underlying T = some (.map K E))
  (ho : o.op = .lookup T x i false) (hx : jJ9 N x (fIs sv)) (hi : jJ9 N i (fV rk y)) : jXg P o N [(s, atV (jJ0 f rv l) sv)] (fV rv (jXm rv.zero l y)) [] := jRv hf t hT (.val sv) ho (.val hx) hi
theorem run_keyThatStays {u : Value} {w : World} (h : Instr.sameBits 10000 u u = true) : (Instr.keyThatStays u u).run P w = .ok u w := by
 unfold Instr.keyThatStays
 rw [if_pos h]; rfl
def jDz (w : World) (b : Nat) (o : Obj) : World := { w with heap := w.heap.setIfInBounds b o }
theorem qQs {w : World} {b : Nat} {o o' : Obj} (hb : w.heap[b]? = some o) : (jDz w b o').heap[b]? = some o' := by
 have := (Array.getElem?_eq_some_iff.1 hb).1
 simp [jDz, this]
theorem qJ3 {w : World} {b i : Nat} {o' : Obj} (hi : i ≠ b) : (jDz w b o').heap[i]? = w.heap[i]? := by
 simp [jDz, Ne.symm hi]
theorem jLz {T K E : TypeId} {rk : Rep α} {f : α → Value} {rv : Rep β} {s : Nat} {x i v : Operand} {l : List (α × β)} {y : α} {z : β} (hf : jBd P K rk f) (hT : P.underlying T = some (.map K E)) (hd : o.dst = none)
    (W : Wr) (ho : o.op = .mapUpdate T x i v ∨ o.op = .insert T x i v) (hx : OpdW N x W s) (hi : jJ9 N i (fV rk y)) (hv : jJ9 N v (fV rv z)) : jXg P o N [(s, W.ap (jJ0 f rv l))] jJa.triv [(s, some (W.ap (jJ0 f rv (jHg l y z))))] := by
  intro κ B F L h a w hst hn hk _ next Q hnext _
  obtain ⟨e, hL, hq⟩ := hk.1
  obtain ⟨b, hvb, rfl⟩ := Wr.iff.1 hq
  have hx' : a.eval x = .map (some b) := (hx h a hn).trans hvb
  have hi' := hf.is (hi h a hn)
  have hv' := hv h a hn
  obtain ⟨es, clock, hb, hr, hB⟩ := qU3 hst hL
  have fin : ∀ es' clock', jMc f rv h es'.toList (jHg l y z) → jFr es'.toList clock' → (execOp a.eval o).run P w = .ok .skip (jDz w b (.map es' clock')) → o.wpK P a w next Q := by
    intro es' clock' hrel hbn hrun
    unfold Oper.wpK
    rw [hrun]
    refine hnext undef h _ (set1 L s (jDk b f rv (jHg l y z))) (Hle.refl h) trivial ?_ ?_
    · obtain ⟨hcl, _⟩ := hst.own (k := Sum.inl s) hL
      have hno := (hcl (b, 0) (by simp [jDk])).2.2
      have hlt := (hcl (b, 0) (by simp [jDk])).2.1
      refine hst.step (hnf := hst.nf_own (k := Sum.inl s) hL (by simp [jDk])) (Sum.inl s) (fun i => i = b) (fun i hi _ => ⟨_, hL, (b, 0), by simp [jDk], hi.symm⟩) (by simp [jDz]) rfl rfl rfl (fun i _ hi => qJ3 hi) (Hle.refl h) (fun _ _ _ _ => rfl) ?_ jUn ?_
      · rintro i o' u (rfl | hi) hu
        · rw [hno o' (Nat.zero_le _)] at hu; cases hu
        · rw [hst.fresh hi] at hu; cases hu
      · intro e' he
        rw [jUt he]
        refine ⟨fun c hc => ?_, es', clock', qQs hb, hrel, hbn⟩
        simp only [jDk, List.mem_singleton] at hc
        subst hc
        exact ⟨.inr ⟨_, hL, (b, 0), by simp [jDk], rfl⟩, by simpa [jDz] using hlt, fun o' _ => hno o' (Nat.zero_le _)⟩
    · rw [hd]
      exact jW5 (Wr.iff.2 ⟨b, hvb, rfl⟩)
  rcases jR3 y hr with ⟨h1, _, _, h4⟩ | ⟨j, e0, h1, h2, h3, _, _, h6⟩
  · refine fin (es.push { key := f y, val := a.eval v, born := clock }) (clock + 1) ?_ (by rw [Array.toList_push]; exact hB.push) ?_
    · rw [h4, Array.toList_push]
      exact jMc.snoc (e := ⟨f y, a.eval v, clock⟩) (p := (y, z)) ⟨rfl, hv'⟩ hr
    · rcases ho with ho | ho <;> simp [execOp, ho, hx', hi', Instr.mapUpdate, run_underlying hT, MapKept.run_getObj_map hb, hf.chk, jSe hf hr h1, MapKept.run_setObj_map _ hb, jDz]
  · have h2' : es[j]? = some e0 := by simpa using h2
    refine fin (es.modify j fun e => { e with key := f y, val := a.eval v }) clock ?_ (by rw [Array.toList_modify]; exact hB.modify (fun _ => rfl)) ?_
    · have hkey : es.toList.modify j (fun e => { e with key := f y, val := a.eval v }) = es.toList.modify j (fun e => { e with val := a.eval v }) := by
        refine List.ext_getElem? fun m => ?_
        simp only [List.getElem?_modify]
        by_cases hm : j = m
        · subst hm; simp [h2', ← h3]
        · simp [hm]
      rw [Array.toList_modify, hkey]
      exact h6 _ z (fun _ => rfl) (fun _ => hv')
    · rcases ho with ho | ho <;> simp [execOp, ho, hx', hi', Instr.mapUpdate, run_underlying hT, MapKept.run_getObj_map hb, hf.chk, jSc hf hr h1 h2, h2', h3, run_keyThatStays (hf.bits y), MapKept.run_setObj_map _ hb, jDz]
theorem jD7 {T K E : TypeId} {rk : Rep α} {f : α → Value} {rv : Rep β} {s : Nat} {x i v : Operand} {l : List (α × β)} {y : α} {z : β} (hf : jBd P K rk f) (hT : P.underlying T = some (.map K E)) (hd : o.dst = none)
  (ho : o.op = .mapUpdate T x i v ∨ o.op = .insert T x i v) (hx : jJ9 N x (fCp s)) (hi : jJ9 N i (fV rk y)) (hv : jJ9 N v (fV rv z)) : jXg P o N [(s, jJ0 f rv l)] jJa.triv [(s, some (jJ0 f rv (jHg l y z)))] := jLz hf hT hd .slot ho (.slot hx) hi hv
theorem jDq {T K E : TypeId} {rk : Rep α} {f : α → Value} {rv : Rep β} {s : Nat} {sv : Value} {x i v : Operand} {l : List (α × β)} {y : α} {z : β} (hf : jBd P K rk f) (hT : P.underlying T = some (.map K E)) (hd : o.dst = none)
  (ho : o.op = .mapUpdate T x i v ∨ o.op = .insert T x i v) (hx : jJ9 N x (fIs sv)) (hi : jJ9 N i (fV rk y)) (hv : jJ9 N v (fV rv z)) : jXg P o N [(s, atV (jJ0 f rv l) sv)] jJa.triv [(s, some (atV (jJ0 f rv (jHg l y z)) sv))] := jLz hf hT hd (.val sv) ho (.val hx) hi hv
end
theorem qV3 {q : jX3} {s d : Nat} {x : Operand} (hsd : Nat.beq s d = false) (hd : o.dst = some d) (ho : o.op = .move x ∨ o.op = .assign x) (hx : jJ9 N x (fCp s)) : jXg P o N [(s, q)] jJa.triv [(s, none), (d, some q)] := by
 intro κ B F L h a w hst hn hk hdn next Q hnext _
 obtain ⟨e, hL, hq⟩ := hk.1
 have hx' : a.eval x = a.gt s := hx h a hn
 have hne : s ≠ d := fun x => by rw [jWm.2 x] at hsd; cases hsd
 unfold Oper.wpK
 have : (execOp a.eval o).run P w = .ok (.value (a.gt s)) w := by rcases ho with ho | ho <;> simp [execOp, ho, hx']
 rw [this]
 refine hnext _ h w _ (Hle.refl h) trivial (hst.mv s d) ?_
 rw [hd]
 exact jPe hne hL (by rw [jQe (hdn d hd)]; exact hq)
end Go.KB
namespace Go.KB
variable {P : Program} {o : Oper} {N : List (Nat × jJa)} {α β : Type}
def qYg (r : Rep α) (h : H) (v : Value) : Option α → Prop
 | none => v = .pointer none
 | some x => ∃ b off, v = .pointer (some ⟨b, off, none⟩) ∧ jHl r h b off x
def Rep.ptr (r : Rep α) : Rep (Option α) where
 sz := 1
 agg := false
 rel := fun h cs x => ∃ v, cs = [v] ∧ qYg r h v x
 zero := none
 zc := [.pointer none]
 one := fun _ => rfl
 len := fun ⟨v, e, _⟩ => by rw [e]; rfl
 flat := fun {h cs x} ⟨v, e, k⟩ c hc => by
  rw [e] at hc; simp at hc; rw [hc]
  cases x with
  | none => rw [show v = _ from k]; rfl
  | some x => obtain ⟨b, off, rfl, _⟩ := k; rfl
 mono := fun {h h' cs x} hl ⟨v, e, k⟩ => ⟨v, e, by
  cases x with
  | none => exact k
  | some x => obtain ⟨b, off, e, k⟩ := k; exact ⟨b, off, e, k.mono hl⟩⟩
 zrel := fun _ => ⟨_, rfl, rfl⟩
theorem jAq {r : Rep α} {h : H} {v : Value} {x : Option α} : (Rep.ptr r).val h v x ↔ qYg r h v x :=
 ⟨fun ⟨_, ⟨v', e, k⟩, e'⟩ => by rw [e', e]; exact k, fun k => ⟨[v], ⟨v, rfl, k⟩, rfl⟩⟩
theorem qVj {r : Rep α} : jJ9 N (.const (.pointer none)) (fV (Rep.ptr r) none) := fun _ _ _ => jAq.2 rfl
theorem opdP {r : Rep α} {x : Operand} {y : α} (hx : jJ9 N x (jQu r y)) : jJ9 N x (fV (Rep.ptr r) (some y)) := fun h a n => jAq.2 (hx h a n)
theorem jK3 {r : Rep α} {x : Operand} {y : α} (ho : o.op = .nilCheck x) (hx : jJ9 N x (jQu r y)) : jXg P o N [] (jQu r y) [] :=
 jXg.ofRun fun h a w _ n => by
  obtain ⟨b, off, hv, hr⟩ := hx h a n
  exact ⟨.pointer (some ⟨b, off, none⟩), by simp [execOp, ho, hv], b, off, rfl, hr⟩
theorem jMu {T T' : TypeId} {r : Rep α} {x : Operand} {q : Option α} (hT : P.underlying T = some (.pointer (P.pointee T))) (ho : o.op = .binOp .eql T x (.const (.pointer none)) T') (hx : jJ9 N x (fV (Rep.ptr r) q)) : jXg P o N [] (fV Rep.bool q.isNone) [] :=
 jXg.ofRun fun h a w _ n => by
  have hg : ∀ p, (eqGuard .eql T x (.const (.pointer none)) (.pointer p) (.pointer none)).run P w = .ok () w := by
   intro p; unfold eqGuard; rfl
  have hv := jAq.1 (hx h a n)
  cases q with
  | none =>
   have hv : a.eval x = .pointer none := hv
   exact ⟨.bool true, by simp only [execOp, ho, hv, show a.eval (.const (.pointer none)) = .pointer none from rfl, hg, Sem.run_bind, Result.andThen_ok, Sem.run_pure, run_eql_pointer_nil w T none hT]; rfl, jX2.2 rfl⟩
  | some y =>
   obtain ⟨b, off, hv, _⟩ := hv
   exact ⟨.bool false, by simp only [execOp, ho, hv, show a.eval (.const (.pointer none)) = .pointer none from rfl, hg, Sem.run_bind, Result.andThen_ok, Sem.run_pure, run_eql_pointer_nil w T (some ⟨b, off, none⟩) hT]; rfl, jX2.2 rfl⟩
theorem St.newCells {κ : Type} {B : Base} {h : H} {L : κ → Option Ent} {w w' : World} (k : κ) (hst : St B h L w) {c : Array Value} {t : TypeId} {fr : Nat × Nat} (hsz : w'.heap.size = w.heap.size + 1) (hos : w'.os = w.os) (htp : w'.tape = w.tape) (hout : w'.output = w.output)
  (hold : ∀ b, b < w.heap.size → w'.heap[b]? = w.heap[b]?) (hnew : w'.heap[w.heap.size]? = some (.cells c t fr)) {cs : List Value} (hcs : ∀ (j : Nat) (v : Value), cs[j]? = some v → c[j]? = some v) (hci : ∀ v ∈ cs, ¬ isI v)
  (hdr : w.drawn ≤ w'.drawn := by first | exact Nat.le_refl _ | exact Nat.le_add_right _ _ | assumption) :
  Hle h (hadd h w.heap.size cs) ∧ St B (hadd h w.heap.size cs) L w' := by
 have hle : Hle h (hadd h w.heap.size cs) := jCx (fun o v x _ => by rw [hst.fresh (Nat.le_refl _)] at x; cases x)
 refine ⟨hle, hst.step (hnf := fun b o v hb _ hi hv => by
  rcases hb with hb | hb
  ·exact hb.elim
  ·by_cases hbe : b = w.heap.size
   ·subst hbe
    by_cases ho : o < cs.length
    ·rw [jGr ho] at hv; cases hv; exact absurd hi (hci _ (List.getElem_mem _))
    ·rw [jNv (by omega), hst.fresh (Nat.le_refl _)] at hv; cases hv
   ·rw [jU9 hbe, hst.fresh hb] at hv; cases hv) k (fun _ => False) (fun b hb => hb.elim) (by omega) hos htp hout (fun b hb _ => hold b hb) hle (fun b o hb _ => jU9 (by omega)) ?_ (fun _ _ _ x => x) ?_⟩
 ·rintro b o v (hb | hb) hv
  ·exact hb.elim
  ·by_cases hbe : b = w.heap.size
   ·subst hbe
    by_cases ho : o < cs.length
    ·rw [jGr ho, ← List.getElem?_eq_getElem ho] at hv
     rw [jGn _ _ _ _ _ _ hnew]
     exact hcs o v hv
    ·simp only [hadd, if_true, if_neg ho] at hv
     rw [hst.fresh (Nat.le_refl _)] at hv; cases hv
   ·rw [jU9 hbe, hst.fresh hb] at hv; cases hv
 ·intro e he
  obtain ⟨h1, h2⟩ := hst.own he
  refine ⟨fun c hc => ?_, e.mono hle (e.frame (fun c hc => hold c.1 (h1 c hc).2.1) h2)⟩
  obtain ⟨h3, h4, h5⟩ := h1 c hc
  exact ⟨.inr ⟨e, he, c, hc, rfl⟩, by omega, fun o ho => by rw [jU9 (by omega)]; exact h5 o ho⟩
def jZy (s : Str) : List Int := s.map fun c => ((UInt8.toNat c : Nat) : Int)
theorem jMz {S T E : TypeId} {x : Operand} {s : Str} (hS : P.underlying S = some .string) (hT : P.underlying T = some (.slice E)) (hE : P.underlying E = some (.int .u8)) (ho : o.op = .convert S T x) (hx : jJ9 N x (fV Rep.str s)) :
  jXg P o N [] (fV (Rep.slice (Rep.int .u8)) (jZy s)) [] := by
 intro κ B F L h a w hst hn _ _ next Q hnext _
 have hv := jVz.1 (hx h a hn)
 unfold Oper.wpK
 have : (execOp a.eval o).run P w = .ok (.value (.slice (some ⟨w.heap.size, 0, none⟩) s.length (grownCap w s.length 0 E))) (Lib.bytesWorld w E ⟨s.toArray⟩) := by
  have hr := Lib.run_convert_string_bytes (P := P) w S T E ⟨s.toArray⟩ hS hT hE
  simp only [execOp, ho, hv, Sem.run_bind, hr, Result.andThen_ok, Sem.run_pure]
  rfl
 rw [this]
 obtain ⟨hle, hst'⟩ := hst.newCells (Sum.inl 0) (w' := Lib.bytesWorld w E ⟨s.toArray⟩) (cs := s.map fun c => Value.int .u8 ((UInt8.toNat c : Nat) : Int)) (Lib.bytesWorld_size w E _) rfl rfl rfl (fun b hb => Lib.bytesWorld_at_old w E _ b hb) (Lib.bytesWorld_at_new w E _) (fun j v hj => by
  have hjl := (List.getElem?_eq_some_iff.1 hj).1
  rw [List.length_map] at hjl
  unfold Lib.bytesCells
  rw [Array.getElem?_append_left (by simpa using hjl)]
  simpa using hj) (fun v hv => by
  obtain ⟨c, _, rfl⟩ := List.mem_map.1 hv
  rintro ⟨n, e⟩; cases e)
 refine hnext _ _ _ L hle (jVp.2 (.inr ⟨w.heap.size, 0, _, by unfold jZy; rw [List.length_map], by unfold jZy; rw [List.length_map]; exact grownCap_ge w _ 0 E, fun i x hi => ?_, fun _ => hst.mn⟩)) hst' jYb
 refine ⟨[.int .u8 x], rfl, fun j v hj => ?_⟩
 match j, hj with
 | 0, hj =>
  cases hj
  have hil := (List.getElem?_eq_some_iff.1 hi).1
  have hil2 : i < s.length := by simpa [jZy] using hil
  simp only [Rep.int, Rep.scalar, Nat.mul_one, Nat.zero_add, Nat.add_zero]
  rw [jGr (by rw [List.length_map]; exact hil2)]
  congr 1
  unfold jZy at hi
  rw [List.getElem?_map, List.getElem?_eq_getElem hil2] at hi
  simp only [Option.map_some, Option.some.injEq] at hi
  rw [List.getElem_map, hi]
end Go.KB
namespace Go.KB
variable {P : Program} {o : Oper} {N : List (Nat × jJa)} {α β : Type}
end Go.KB
namespace Go.KB
variable {P : Program} {o : Oper} {N : List (Nat × jJa)} {α β : Type}
def qYq : jJa := ⟨none, fun _ _ v => v = .slice none 0 0, fun _ x => x⟩
theorem opdN0 : jJ9 N (.const (.slice none 0 0)) qYq := fun _ _ _ => rfl
end Go.KB
namespace Go.KB
section
variable {P : Program} {o : Oper} {N : List (Nat × jJa)} {α : Type}
theorem jV8 {T : TypeId} {r : Rep α} {s : Nat} {y : α} (t : jKu P T r) (ho : o.op = .load T (.tmp s)) : jXg P o ((s, jQu r y) :: N) [] (fV r y) [] := jU5 t ho jJf
theorem jG5 {β : Type} {T : TypeId} {r : Rep α} {q : Rep β} {s : Nat} {y : α} {i off : Nat} {get : α → β} {set : α → β → α} (l : Lens r q off get set) (hf : jQj P T i off) (ho : o.op = .fieldAddr T (.tmp s) i) : jXg P o ((s, jQu r y) :: N) [] (jQu q (get y)) [] := jUq l hf ho jJf
theorem jY6 {T : TypeId} {r : Rep α} {s v : Nat} {y z : α} (t : jKu P T r) (ho : o.op = .store T (.tmp s) (.tmp v)) (hd : o.dst = none := by rfl) : jXg P o ((v, fV r z) :: N) [(s, jJ8 T r y)] jJa.triv [(s, some (jJ8 T r z))] := jYd t hd ho jJf
def qU5 : BinOp → Bool
 | .eql | .neq | .lss | .leq | .gtr | .geq => true
 | _ => false
theorem jP3 {op : BinOp} (h : qU5 op = true) : op = .eql ∨ op = .neq ∨ op = .lss ∨ op = .leq ∨ op = .gtr ∨ op = .geq := by
 cases op <;> first | (cases h; done) | simp
theorem jXe {op : BinOp} {k : IntKind} {T T' : TypeId} {s : Nat} {m n : Int} (ho : o.op = .binOp op T (.tmp s) (.const (.int k n)) T') (hop : qU5 op = true := by rfl) : jXg P o ((s, fV (Rep.int k) m) :: N) [] (fV Rep.bool (jJb op m n)) [] := jWq (jP3 hop) rfl ho jJf jQf
theorem jK5 {op : BinOp} {k : IntKind} {T T' : TypeId} {s t : Nat} {m n : Int} (ho : o.op = .binOp op T (.tmp s) (.tmp t) T') (hop : qU5 op = true := by rfl) : jXg P o ((s, fV (Rep.int k) m) :: (t, fV (Rep.int k) n) :: N) [] (fV Rep.bool (jJb op m n)) [] := jWq (jP3 hop) rfl ho jJf jJe
theorem jXq {α β γ : Type} {x : Option α} {f : α → Option β} {g : α → β → Option γ} {r : γ} (h : (x.bind fun a => (f a).bind (g a)) = some r) : ∃ a, x = some a ∧ ∃ b, f a = some b ∧ g a b = some r := by
 obtain ⟨a, h1, h⟩ := jJ2 h
 obtain ⟨b, h2, h⟩ := jJ2 h
 exact ⟨a, h1, b, h2, h⟩
theorem tn {K : Act → World → Prop} {Q : Exit → Act → World → Prop} {a : Act} {w : World} (h : K a w) : Exit.then K Q .normal a w := h
theorem tr {K : Act → World → Prop} {Q : Exit → Act → World → Prop} {a : Act} {w : World} (h : Q .ret a w) : Exit.then K Q .ret a w := h
theorem ws {ρ : Option Nat} {Q : Exit → Act → World → Prop} {a : Act} {w : World} {x y : Code} (h : x.wpK ρ P (Exit.then (y.wpK ρ P Q) Q) a w) : (Code.seq x y).wpK ρ P Q a w := wp_seq h
theorem wk {ρ : Option Nat} {Q : Exit → Act → World → Prop} {a : Act} {w : World} (h : Q .normal a w) : Code.skip.wpK ρ P Q a w := wp_skip h
theorem wr {ρ : Option Nat} {Q : Exit → Act → World → Prop} {a : Act} {w : World} (h : Q .ret a w) : Code.ret.wpK ρ P Q a w := wp_ret h
abbrev ln {α : Type} (l : List α) : Int := (List.length l : Int)
abbrev w3 : Int → Int := IntKind.u32.wrap
abbrev w1 : Int → Int := IntKind.u16.wrap
abbrev lS {α : Type} (r : Rep α) : Rep (List α) := Rep.slice r
end
end Go.KB
