/- Variables whose fields are rows that are appended to. No condition. -/
import Derived.Test.YtbedbjphickpaaaKMut
namespace Go.KB
variable {P : Program} {o : Oper} {N : List (Nat × Fact)} {f : Fact} {α β : Type}

structure TipS where
  off : Nat
  E : TypeId
  sz : Nat
def TipsAre : List TipS → List (Nat × Value × Ent) → Prop
  | [], [] => True
  | t :: ts, u :: us => (u.1 = t.off ∧ tipE t.E t.sz u.2.1 u.2.2) ∧ TipsAre ts us
  | _, _ => False
theorem TipsAre.mid {t : TipS} {l2 : List TipS} : ∀ {l1 : List TipS} {us : List (Nat × Value × Ent)}, TipsAre (l1 ++ t :: l2) us →
    ∃ us1 u us2, us = us1 ++ u :: us2 ∧ u.1 = t.off ∧ tipE t.E t.sz u.2.1 u.2.2 ∧ TipsAre l1 us1 ∧ TipsAre l2 us2 := by
  intro l1
  induction l1 with
  | nil =>
    intro us h
    cases us with
    | nil => exact h.elim
    | cons u us => exact ⟨[], u, us, rfl, h.1.1, h.1.2, trivial, h.2⟩
  | cons t1 l1 ih =>
    intro us h
    cases us with
    | nil => exact h.elim
    | cons u0 us =>
      obtain ⟨us1, u, us2, rfl, h1, h2, h3, h4⟩ := ih h.2
      exact ⟨u0 :: us1, u, us2, rfl, h1, h2, ⟨h.1, h3⟩, h4⟩
theorem TipsAre.app {l2 : List TipS} {us2 : List (Nat × Value × Ent)} (h2 : TipsAre l2 us2) : ∀ {l1 : List TipS} {us1 : List (Nat × Value × Ent)}, TipsAre l1 us1 → TipsAre (l1 ++ l2) (us1 ++ us2) := by
  intro l1
  induction l1 with
  | nil =>
    intro us1 h
    cases us1 with
    | nil => exact h2
    | cons u us => exact h.elim
  | cons t1 l1 ih =>
    intro us1 h
    cases us1 with
    | nil => exact h.elim
    | cons u0 us => exact ⟨h.1, ih h.2⟩
theorem TipsAre.offs : ∀ {l : List TipS} {us : List (Nat × Value × Ent)}, TipsAre l us → ∀ u ∈ us, ∃ t ∈ l, u.1 = t.off := by
  intro l
  induction l with
  | nil =>
    intro us h u hu
    cases us with
    | nil => cases hu
    | cons _ _ => exact h.elim
  | cons t l ih =>
    intro us h u hu
    cases us with
    | nil => exact h.elim
    | cons u0 us =>
      rcases List.mem_cons.1 hu with rfl | hu
      · exact ⟨t, List.mem_cons_self, h.1.1⟩
      · obtain ⟨t', ht', e⟩ := ih h.2 u hu
        exact ⟨t', List.mem_cons_of_mem _ ht', e⟩
theorem TipsAre.cut {l2 : List TipS} : ∀ {l1 : List TipS} {us : List (Nat × Value × Ent)}, TipsAre (l1 ++ l2) us → ∃ us1 us2, us = us1 ++ us2 ∧ TipsAre l1 us1 ∧ TipsAre l2 us2 := by
  intro l1
  induction l1 with
  | nil => intro us h; exact ⟨[], us, rfl, trivial, h⟩
  | cons t1 l1 ih =>
    intro us h
    cases us with
    | nil => exact h.elim
    | cons u0 us =>
      obtain ⟨us1, us2, rfl, h3, h4⟩ := ih h.2
      exact ⟨u0 :: us1, us2, rfl, ⟨h.1, h3⟩, h4⟩
def Disj (a b : List (Nat × Nat)) : Prop := ∀ c ∈ a, ∀ c' ∈ b, c.1 ≠ c'.1
def BoxOk (b : Nat) (us : List (Nat × Value × Ent)) : Prop := (us.map (fun u => u.2.2.claims)).Pairwise Disj ∧ ∀ u ∈ us, ∀ c ∈ u.2.2.claims, c.1 ≠ b
def usCl (us : List (Nat × Value × Ent)) : List (Nat × Nat) := us.flatMap (fun u => u.2.2.claims)
def boxTEnt (b : Nat) (T : TypeId) (r : Rep α) (x : α) (us : List (Nat × Value × Ent)) : Ent where
  claims := (b, 0) :: usCl us
  ok := fun h m => (∃ cs, m b = some (.cells cs.toArray T (0, 0)) ∧ r.rel h cs x ∧ ∀ u ∈ us, cs[u.1]? = some u.2.1) ∧ ∀ u ∈ us, u.2.2.ok h m
  mono := by
    intro h h' m hl ⟨⟨cs, e, k, l⟩, q⟩
    exact ⟨⟨cs, e, r.mono hl k, l⟩, fun u hu => u.2.2.mono hl (q u hu)⟩
  frame := by
    intro h m m' hm ⟨⟨cs, e, k, l⟩, q⟩
    refine ⟨⟨cs, by rw [hm (b, 0) (by simp)]; exact e, k, l⟩, fun u hu => u.2.2.frame (fun c hc => hm c ?_) (q u hu)⟩
    exact List.mem_cons_of_mem _ (List.mem_flatMap.2 ⟨u, hu, hc⟩)
def boxT (T : TypeId) (r : Rep α) (x : α) (ts : List TipS) : OwnP := fun v e => ∃ b us, v = .pointer (some ⟨b, 0, none⟩) ∧ TipsAre ts us ∧ BoxOk b us ∧ e = boxTEnt b T r x us

theorem St.split2 {κ : Type} {B : Base} {h : H} {L : Nat → Option Ent} {F : κ → Option Ent} {w : World} (hst : St B h (Sum.elim L F) w) {s d : Nat} {e e1 e2 : Ent} (hL : L s = some e) (hsd : s ≠ d)
    (h1 : ∀ c ∈ e1.claims, c ∈ e.claims) (h2 : ∀ c ∈ e2.claims, c ∈ e.claims) (hd : Disj e1.claims e2.claims) (k1 : e1.ok h (World.mem w)) (k2 : e2.ok h (World.mem w)) :
    St B h (Sum.elim (set1 (set1 L s e1) d e2) F) w := by
  obtain ⟨hcl, _⟩ := hst.own (k := Sum.inl s) hL
  have hval : ∀ k e', set1 (set1 L s e1) d e2 k = some e' → (k = d ∧ e' = e2) ∨ (k = s ∧ e' = e1) ∨ (k ≠ s ∧ k ≠ d ∧ L k = some e') := by
    intro k e' hk
    unfold set1 at hk
    split at hk
    · rename_i hkd; exact .inl ⟨hkd, (Option.some.inj hk).symm⟩
    · rename_i hkd
      split at hk
      · rename_i hks; exact .inr (.inl ⟨hks, (Option.some.inj hk).symm⟩)
      · rename_i hks; exact .inr (.inr ⟨hks, hkd, hk⟩)
  refine ⟨hst.low, hst.base, fun x => hst.ext x, ?_, ?_⟩
  · intro k e' hk
    cases k with
    | inr k => exact hst.own (k := Sum.inr k) hk
    | inl k =>
      rcases hval k e' hk with ⟨_, rfl⟩ | ⟨_, rfl⟩ | ⟨_, _, hk⟩
      · exact ⟨fun c hc => hcl c (h2 c hc), k2⟩
      · exact ⟨fun c hc => hcl c (h1 c hc), k1⟩
      · exact hst.own (k := Sum.inl k) hk
  · have other : ∀ (k : Nat ⊕ κ) e', Sum.elim L F k = some e' → k ≠ Sum.inl s → ∀ c ∈ e.claims, ∀ c' ∈ e'.claims, c.1 ≠ c'.1 := fun k e' hk hne => hst.disj (k := Sum.inl s) hL hk (Ne.symm hne)
    intro k k' a a' hk hk' hne c hc c' hc'
    cases k with
    | inr k =>
      cases k' with
      | inr k' => exact hst.disj (k := Sum.inr k) (k' := Sum.inr k') hk hk' hne c hc c' hc'
      | inl k' =>
        rcases hval k' a' hk' with ⟨_, rfl⟩ | ⟨_, rfl⟩ | ⟨h3, _, hk'⟩
        · exact (other (.inr k) a hk (by simp) c' (h2 _ hc') c hc).symm
        · exact (other (.inr k) a hk (by simp) c' (h1 _ hc') c hc).symm
        · exact hst.disj (k := Sum.inr k) (k' := Sum.inl k') hk hk' (by simp) c hc c' hc'
    | inl k =>
      cases k' with
      | inr k' =>
        rcases hval k a hk with ⟨_, rfl⟩ | ⟨_, rfl⟩ | ⟨h3, _, hk⟩
        · exact other (.inr k') a' hk' (by simp) c (h2 _ hc) c' hc'
        · exact other (.inr k') a' hk' (by simp) c (h1 _ hc) c' hc'
        · exact hst.disj (k := Sum.inl k) (k' := Sum.inr k') hk hk' (by simp) c hc c' hc'
      | inl k' =>
        have hne' : k ≠ k' := fun x => hne (by rw [x])
        rcases hval k a hk with ⟨e3, rfl⟩ | ⟨e3, rfl⟩ | ⟨h3, h4, hk2⟩ <;> rcases hval k' a' hk' with ⟨e4, rfl⟩ | ⟨e4, rfl⟩ | ⟨h5, h6, hk2'⟩
        · exact absurd (e3.trans e4.symm) hne'
        · exact (hd c' hc' c hc).symm
        · exact other (.inl k') a' hk2' (fun x => h5 (Sum.inl.inj x)) c (h2 _ hc) c' hc'
        · exact hd c hc c' hc'
        · exact absurd (e3.trans e4.symm) hne'
        · exact other (.inl k') a' hk2' (fun x => h5 (Sum.inl.inj x)) c (h1 _ hc) c' hc'
        · exact (other (.inl k) a hk2 (fun x => h3 (Sum.inl.inj x)) c' (h2 _ hc') c hc).symm
        · exact (other (.inl k) a hk2 (fun x => h3 (Sum.inl.inj x)) c' (h1 _ hc') c hc).symm
        · exact hst.disj (k := Sum.inl k) (k' := Sum.inl k') hk2 hk2' (fun x => hne' (Sum.inl.inj x)) c hc c' hc'
def join2 (L : Nat → Option Ent) (s d : Nat) (e : Ent) : Nat → Option Ent := fun k => if k = d then none else if k = s then some e else L k
theorem St.join2 {κ : Type} {B : Base} {h : H} {L : Nat → Option Ent} {F : κ → Option Ent} {w : World} (hst : St B h (Sum.elim L F) w) {s d : Nat} {e e1 e2 : Ent} (hL : L s = some e1) (hL2 : L d = some e2)
    (hc : ∀ c ∈ e.claims, c ∈ e1.claims ∨ c ∈ e2.claims) (ho : e.ok h (World.mem w)) : St B h (Sum.elim (join2 L s d e) F) w := by
  obtain ⟨hcl1, _⟩ := hst.own (k := Sum.inl s) hL
  obtain ⟨hcl2, _⟩ := hst.own (k := Sum.inl d) hL2
  have hval : ∀ k e', KB.join2 L s d e k = some e' → (k = s ∧ e' = e) ∨ (k ≠ s ∧ k ≠ d ∧ L k = some e') := by
    intro k e' hk
    unfold KB.join2 at hk
    split at hk
    · cases hk
    · rename_i hkd
      split at hk
      · rename_i hks; exact .inl ⟨hks, (Option.some.inj hk).symm⟩
      · rename_i hks; exact .inr ⟨hks, hkd, hk⟩
  refine ⟨hst.low, hst.base, fun x => hst.ext x, ?_, ?_⟩
  · intro k e' hk
    cases k with
    | inr k => exact hst.own (k := Sum.inr k) hk
    | inl k =>
      rcases hval k e' hk with ⟨_, rfl⟩ | ⟨_, _, hk⟩
      · exact ⟨fun c hcc => (hc c hcc).elim (hcl1 c) (hcl2 c), ho⟩
      · exact hst.own (k := Sum.inl k) hk
  · have other : ∀ (k : Nat ⊕ κ) e', Sum.elim L F k = some e' → k ≠ Sum.inl s → k ≠ Sum.inl d → ∀ c ∈ e.claims, ∀ c' ∈ e'.claims, c.1 ≠ c'.1 := by
      intro k e' hk hn1 hn2 c hcc
      rcases hc c hcc with h1 | h1
      · exact hst.disj (k := Sum.inl s) hL hk (Ne.symm hn1) c h1
      · exact hst.disj (k := Sum.inl d) hL2 hk (Ne.symm hn2) c h1
    intro k k' a a' hk hk' hne c hcc c' hcc'
    cases k with
    | inr k =>
      cases k' with
      | inr k' => exact hst.disj (k := Sum.inr k) (k' := Sum.inr k') hk hk' hne c hcc c' hcc'
      | inl k' =>
        rcases hval k' a' hk' with ⟨_, rfl⟩ | ⟨h3, _, hk'⟩
        · exact (other (.inr k) a hk (by simp) (by simp) c' hcc' c hcc).symm
        · exact hst.disj (k := Sum.inr k) (k' := Sum.inl k') hk hk' (by simp) c hcc c' hcc'
    | inl k =>
      cases k' with
      | inr k' =>
        rcases hval k a hk with ⟨_, rfl⟩ | ⟨h3, _, hk⟩
        · exact other (.inr k') a' hk' (by simp) (by simp) c hcc c' hcc'
        · exact hst.disj (k := Sum.inl k) (k' := Sum.inr k') hk hk' (by simp) c hcc c' hcc'
      | inl k' =>
        have hne' : k ≠ k' := fun x => hne (by rw [x])
        rcases hval k a hk with ⟨e3, rfl⟩ | ⟨h3, h4, hk2⟩ <;> rcases hval k' a' hk' with ⟨e4, rfl⟩ | ⟨h5, h6, hk2'⟩
        · exact absurd (e3.trans e4.symm) hne'
        · exact other (.inl k') a' hk2' (fun x => h5 (Sum.inl.inj x)) (fun x => h6 (Sum.inl.inj x)) c hcc c' hcc'
        · exact (other (.inl k) a hk2 (fun x => h3 (Sum.inl.inj x)) (fun x => h4 (Sum.inl.inj x)) c' hcc' c hcc).symm
        · exact hst.disj (k := Sum.inl k) (k' := Sum.inl k') hk2 hk2' (fun x => hne' (Sum.inl.inj x)) c hcc c' hcc'

theorem boxT_at {κ : Type} {B : Base} {h : H} {L : Nat → Option Ent} {F : κ → Option Ent} {w : World} (hst : St B h (Sum.elim L F) w) {s b : Nat} {T : TypeId} {r : Rep α} {x : α} {us : List (Nat × Value × Ent)}
    (hk : L s = some (boxTEnt b T r x us)) : (∃ cs, w.heap[b]? = some (.cells cs.toArray T (0, 0)) ∧ r.rel h cs x ∧ ∀ u ∈ us, cs[u.1]? = some u.2.1) ∧ ∀ u ∈ us, u.2.2.ok h (World.mem w) := (hst.own (k := Sum.inl s) hk).2

/- pointers and loads -/
theorem ok_fieldOwnT {T T' : TypeId} {r : Rep α} {y : α} {ts : List TipS} {s i off : Nat} (hf : FieldOk P T i off) (ho : o.op = .fieldAddr T (.tmp s) i) : OpOk P o N [(s, boxT T' r y ts)] (fOff s off) [] := by
  intro κ B F L h a w hst hn hk _ next Q hnext
  obtain ⟨e, _, b, us, hv, _⟩ := hk.1
  unfold Oper.wp
  have hv' : a.eval (.tmp s) = .pointer (some ⟨b, 0, none⟩) := hv
  have : (execOp a.eval o).run P w = .ok (.value (.pointer (some ⟨b, off, none⟩))) w := by simp [execOp, ho, hv', hf b 0 w]
  rw [this]
  exact hnext _ h w L (Hle.refl h) ⟨b, hv, rfl⟩ hst upd_nil
theorem ok_loadOwnT {T T' : TypeId} {r : Rep α} {q : Rep β} {ts : List TipS} {s off : Nat} {x : Operand} {y : α} {get : α → β} {set : α → β → α} (l : Lens r q off get set) (t : TyOk P T q) (ho : o.op = .load T x) (hx : OpdOk N x (fOff s off)) :
    OpOk P o N [(s, boxT T' r y ts)] (fV q (get y)) [] := by
  intro κ B F L h a w hst hn hk _ next Q hnext
  obtain ⟨b, hd, hv⟩ := hx h a hn
  obtain ⟨e, hL, b', us, hv', _, _, rfl⟩ := hk.1
  have hd' : a.gt s = .pointer (some ⟨b, 0, none⟩) := hd
  rw [hd'] at hv'; cases hv'
  obtain ⟨⟨cs, hb, hr, _⟩, _⟩ := boxT_at hst hL
  obtain ⟨c, hc, hrun⟩ := run_load_own t l hb hr
  unfold Oper.wp
  have : (execOp a.eval o).run P w = .ok (.value (pack q.agg c)) w := by simp [execOp, ho, hv, hrun]
  rw [this]
  exact hnext _ h w L (Hle.refl h) ⟨c, hc, rfl⟩ hst upd_nil
theorem ok_loadBoxT {T T' : TypeId} {r : Rep α} {ts : List TipS} {s : Nat} {y : α} (t : TyOk P T r) (ho : o.op = .load T (.tmp s)) :
    OpOk P o N [(s, boxT T' r y ts)] (fV r y) [] := by
  intro κ B F L h a w hst hn hk _ next Q hnext
  obtain ⟨e, hL, b, us, hv, _, _, rfl⟩ := hk.1
  have hv' : a.eval (.tmp s) = .pointer (some ⟨b, 0, none⟩) := hv
  obtain ⟨⟨cs, hb, hr, _⟩, _⟩ := boxT_at hst hL
  obtain ⟨c, hc, hrun⟩ := run_load_own t (Lens.refl r) hb hr
  unfold Oper.wp
  have : (execOp a.eval o).run P w = .ok (.value (pack r.agg c)) w := by simp [execOp, ho, hv', hrun]
  rw [this]
  exact hnext _ h w L (Hle.refl h) ⟨c, hc, rfl⟩ hst upd_nil

/- a new variable: the fields that are nil may be appended to -/
def nilV : Value := .slice none 0 0
def TipsNil (cs : List Value) : List TipS → Prop
  | [] => True
  | t :: ts => cs[t.off]? = some nilV ∧ TipsNil cs ts
def nilUs (ts : List TipS) : List (Nat × Value × Ent) := ts.map (fun t => (t.off, nilV, nilEnt))
theorem nilUs_are : ∀ (ts : List TipS), TipsAre ts (nilUs ts)
  | [] => trivial
  | _ :: ts => ⟨⟨rfl, .inl ⟨none, 0, rfl, rfl⟩⟩, nilUs_are ts⟩
theorem nilUs_ent {ts : List TipS} {u : Nat × Value × Ent} (hu : u ∈ nilUs ts) : u.2.2 = nilEnt ∧ u.2.1 = nilV := by
  obtain ⟨t, _, rfl⟩ := List.mem_map.1 hu; exact ⟨rfl, rfl⟩
theorem nilUs_ok (b : Nat) : ∀ (ts : List TipS), BoxOk b (nilUs ts)
  | [] => ⟨List.Pairwise.nil, fun u hu => by cases hu⟩
  | t :: ts => ⟨List.Pairwise.cons (fun l _ c hc => by cases hc) (nilUs_ok b ts).1, fun u hu c hc => by rw [(nilUs_ent hu).1] at hc; cases hc⟩
theorem nilUs_cl : ∀ (ts : List TipS), usCl (nilUs ts) = []
  | [] => rfl
  | _ :: ts => nilUs_cl ts
theorem TipsNil.at {cs : List Value} : ∀ {ts : List TipS}, TipsNil cs ts → ∀ u ∈ nilUs ts, cs[u.1]? = some u.2.1 := by
  intro ts
  induction ts with
  | nil => intro _ u hu; cases hu
  | cons t ts ih =>
    intro h u hu
    rcases List.mem_cons.1 hu with rfl | hu
    · exact h.1
    · exact ih h.2 u hu
theorem ok_allocT {T : TypeId} {r : Rep α} {d : Nat} (ts : List TipS) (t : TyOk P T r) (hz : TipsNil r.zc ts) (hd : o.dst = some d) (ho : o.op = .alloc T) : OpOk P o N [] Fact.triv [(d, some (boxT T r r.zero ts))] := by
  intro κ B F L h a w hst hn _ hdn next Q hnext
  unfold Oper.wp
  have : (execOp a.eval o).run P w = .ok (.value (.pointer (some ⟨w.heap.size, 0, none⟩))) (w.alloc (.cells r.zc.toArray T)) := by
    simp [execOp, ho, Instr.alloc, t.zero, run_newVar (r.zrel h)]
  rw [this]
  refine hnext _ h _ (set1 L d (boxTEnt w.heap.size T r r.zero (nilUs ts))) (Hle.refl h) trivial (hst.own_new _ d _ ?_ ⟨⟨_, mem_new _ _, r.zrel h, hz.at⟩, fun u hu => by rw [(nilUs_ent hu).1]; trivial⟩) ?_
  · intro c hc
    have : c ∈ (w.heap.size, 0) :: usCl (nilUs ts) := hc
    rw [nilUs_cl] at this
    simp at this; rw [this]
  rw [hd]
  exact upd_set1 ⟨_, _, gt_put_same (hdn d hd), nilUs_are ts, nilUs_ok _ ts, rfl⟩

/- stores that leave the rows that are appended to -/
def apartB (off sz : Nat) (ts : List TipS) : Bool := ts.all (fun t => Nat.blt t.off off || Nat.ble (off + sz) t.off)
theorem apartB_spec {off sz : Nat} {ts : List TipS} (h : apartB off sz ts = true) : ∀ t ∈ ts, t.off < off ∨ off + sz ≤ t.off := by
  intro t ht
  have := List.all_eq_true.1 h t ht
  simpa [Nat.blt_eq] using this
theorem get_apart {p c c' q : List Value} {off sz i : Nat} (hp : p.length = off) (hc : c.length = sz) (hc' : c'.length = sz) (h : i < off ∨ off + sz ≤ i) : (p ++ c' ++ q)[i]? = (p ++ c ++ q)[i]? := by
  rcases h with h | h
  · rw [List.append_assoc, List.append_assoc, List.getElem?_append_left (by omega), List.getElem?_append_left (by omega)]
  · rw [List.getElem?_append_right (by simp; omega), List.getElem?_append_right (by simp; omega)]
    congr 1; simp; omega
theorem tip_frame {h : H} {w w' : World} {b : Nat} {us : List (Nat × Value × Ent)} (hbo : BoxOk b us) (hw : ∀ i, i ≠ b → w'.heap[i]? = w.heap[i]?) (h2 : ∀ u ∈ us, u.2.2.ok h (World.mem w)) : ∀ u ∈ us, u.2.2.ok h (World.mem w') :=
  fun u hu => u.2.2.frame (fun c hc => hw c.1 (hbo.2 u hu c hc)) (h2 u hu)
theorem BoxOk.sub {b : Nat} {us us' : List (Nat × Value × Ent)} (h : us'.Sublist us) (hb : BoxOk b us) : BoxOk b us' :=
  ⟨hb.1.sublist (h.map _), fun u hu => hb.2 u (h.subset hu)⟩
theorem usCl_sub {us us' : List (Nat × Value × Ent)} (h : us'.Sublist us) : ∀ c ∈ usCl us', c ∈ usCl us := by
  intro c hc
  obtain ⟨u, hu, hcu⟩ := List.mem_flatMap.1 hc
  exact List.mem_flatMap.2 ⟨u, h.subset hu, hcu⟩
/- the store itself: us' are those whose rows go on to be appended to -/
theorem run_storeT {T T' : TypeId} {r : Rep α} {q : Rep β} {off : Nat} {y : α} {z : β} {get : α → β} {set : α → β → α} (l : Lens r q off get set) (t : TyOk P T q) {κ : Type} {B : Base} {F : κ → Option Ent} {L : Nat → Option Ent} {h : H} {w : World} {s b : Nat} {us us' : List (Nat × Value × Ent)}
    (hst : St B h (Sum.elim L F) w) (hL : L s = some (boxTEnt b T' r y us)) (hbo : BoxOk b us) (hsub : us'.Sublist us) (hap : ∀ u ∈ us', u.1 < off ∨ off + q.sz ≤ u.1) {c' : List Value} (hc' : q.rel h c' z) :
    ∃ p c q' : List Value, p.length = off ∧ (Instr.storeAt T (.pointer (some ⟨b, off, none⟩)) (pack q.agg c')).run P w = .ok () (w.setRow b (p ++ c' ++ q').toArray) ∧ c.length = q.sz ∧
      (w.setRow b (p ++ c' ++ q').toArray).heap[b]? = some (.cells (p ++ c' ++ q').toArray T' (0, 0)) ∧ r.rel h (p ++ c' ++ q') (set y z) ∧ (∀ u ∈ us', (p ++ c' ++ q')[u.1]? = some u.2.1) ∧
      St B h (Sum.elim (set1 L s (boxTEnt b T' r (set y z) us')) F) (w.setRow b (p ++ c' ++ q').toArray) := by
  obtain ⟨⟨cs, hb, hr, hu1⟩, hu2⟩ := boxT_at hst hL
  obtain ⟨p, c, q', rfl, hp, hc, hset⟩ := l h cs y hr
  have hrun := run_store_cells t hc' hb (q.len hc)
  rw [hp] at hrun
  have hmem := setRow_mem w b _ (p ++ c' ++ q').toArray T' hb
  have hrel := hset h c' z (Hle.refl h) hc'
  have hget : ∀ u ∈ us', (p ++ c' ++ q')[u.1]? = some u.2.1 := fun u hu => by
    rw [get_apart hp (q.len hc) (q.len hc') (hap u hu)]; exact hu1 u (hsub.subset hu)
  obtain ⟨hcl, _⟩ := hst.own (k := Sum.inl s) hL
  have hno := (hcl (b, 0) (by simp [boxTEnt])).2.2
  refine ⟨p, c, q', hp, hrun, q.len hc, hmem, hrel, hget, ?_⟩
  refine hst.write (Sum.inl s) (e := boxTEnt b T' r y us) hL (b := b) (lo := 0) (by simp [boxTEnt]) hmem (fun i hi => setRow_other w b i _ hi) (by simp [World.setRow]) rfl rfl rfl ?_ set1_ne ?_
  · intro o' v hh; rw [hno o' (Nat.zero_le _)] at hh; cases hh
  · intro e' he
    rw [set1_eq he]
    refine ⟨fun c hc => ?_, ⟨_, hmem, hrel, hget⟩, tip_frame (hbo.sub hsub) (fun i hi => setRow_other w b i _ hi) (fun u hu => hu2 u (hsub.subset hu))⟩
    rcases List.mem_cons.1 hc with rfl | hc
    · exact List.mem_cons_self
    · exact List.mem_cons_of_mem _ (usCl_sub hsub c hc)
theorem ok_storeT {T T' : TypeId} {r : Rep α} {q : Rep β} {ts : List TipS} {s off : Nat} {x v : Operand} {y : α} {z : β} {get : α → β} {set : α → β → α} {y' : α} (l : Lens r q off get set) (t : TyOk P T q) (hap : apartB off q.sz ts = true) (hd : o.dst = none)
    (ho : o.op = .store T x v) (hx : OpdOk N x (fOff s off)) (hv : OpdOk N v (fV q z)) (hy' : y' = set y z) : OpOk P o N [(s, boxT T' r y ts)] Fact.triv [(s, some (boxT T' r y' ts))] := by
  subst hy'
  intro κ B F L h a w hst hn hk _ next Q hnext
  obtain ⟨b, hdv, hxv⟩ := hx h a hn
  obtain ⟨e, hL, b', us, hv', hta, hbo, rfl⟩ := hk.1
  have hd' : a.gt s = .pointer (some ⟨b, 0, none⟩) := hdv
  rw [hd'] at hv'; cases hv'
  obtain ⟨c', hc', hvv⟩ := hv h a hn
  obtain ⟨p, c, q', hp, hrun, _, _, _, _, hst'⟩ := run_storeT l t hst hL hbo (List.Sublist.refl us) (fun u hu => by
    obtain ⟨t, ht, e⟩ := hta.offs u hu; rw [e]; exact apartB_spec hap t ht) hc'
  unfold Oper.wp
  have : (execOp a.eval o).run P w = .ok .skip (w.setRow b (p ++ c' ++ q').toArray) := by
    simp only [execOp, ho, hxv, hvv, Sem.run_bind, hrun, Result.andThen_ok, Sem.run_pure]
  rw [this]
  refine hnext undef h _ _ (Hle.refl h) trivial hst' ?_
  rw [hd]
  exact upd_set1 ⟨b, us, hd', hta, hbo, rfl⟩
/- .. and one that ends one of them -/
theorem ok_storeDropT {T T' : TypeId} {r : Rep α} {q : Rep β} {l1 l2 : List TipS} {t0 : TipS} {s off : Nat} {x v : Operand} {y : α} {z : β} {get : α → β} {set : α → β → α} {y' : α} (l : Lens r q off get set) (t : TyOk P T q) (hap : apartB off q.sz (l1 ++ l2) = true) (hd : o.dst = none)
    (ho : o.op = .store T x v) (hx : OpdOk N x (fOff s off)) (hv : OpdOk N v (fV q z)) (hy' : y' = set y z) : OpOk P o N [(s, boxT T' r y (l1 ++ t0 :: l2))] Fact.triv [(s, some (boxT T' r y' (l1 ++ l2)))] := by
  subst hy'
  intro κ B F L h a w hst hn hk _ next Q hnext
  obtain ⟨b, hdv, hxv⟩ := hx h a hn
  obtain ⟨e, hL, b', us, hv', hta, hbo, rfl⟩ := hk.1
  have hd' : a.gt s = .pointer (some ⟨b, 0, none⟩) := hdv
  rw [hd'] at hv'; cases hv'
  obtain ⟨us1, u0, us2, rfl, _, _, h3, h4⟩ := hta.mid
  have hta' := h4.app h3
  have hsub : (us1 ++ us2).Sublist (us1 ++ u0 :: us2) := (List.Sublist.refl us1).append (List.sublist_cons_self _ _)
  obtain ⟨c', hc', hvv⟩ := hv h a hn
  obtain ⟨p, c, q', hp, hrun, _, _, _, _, hst'⟩ := run_storeT l t hst hL hbo hsub (fun u hu => by
    obtain ⟨t, ht, e⟩ := hta'.offs u hu; rw [e]; exact apartB_spec hap t ht) hc'
  unfold Oper.wp
  have : (execOp a.eval o).run P w = .ok .skip (w.setRow b (p ++ c' ++ q').toArray) := by
    simp only [execOp, ho, hxv, hvv, Sem.run_bind, hrun, Result.andThen_ok, Sem.run_pure]
  rw [this]
  refine hnext undef h _ _ (Hle.refl h) trivial hst' ?_
  rw [hd]
  exact upd_set1 ⟨b, _, hd', hta', hbo.sub hsub, rfl⟩
/- nil is stored: the field may be appended to -/
theorem BoxOk.nil {b off : Nat} {us1 us2 : List (Nat × Value × Ent)} (h : BoxOk b (us1 ++ us2)) : BoxOk b (us1 ++ (off, nilV, nilEnt) :: us2) := by
  obtain ⟨h1, h2⟩ := h
  constructor
  · rw [List.map_append, List.pairwise_append] at h1 ⊢
    obtain ⟨k1, k2, k3⟩ := h1
    refine ⟨k1, List.Pairwise.cons (fun l _ c hc => by cases hc) k2, fun x hx y hy => ?_⟩
    rcases List.mem_cons.1 hy with rfl | hy
    · intro c _ c' hc'; cases hc'
    · exact k3 x hx y hy
  · intro u hu c hc
    rcases List.mem_append.1 hu with hu | hu
    · exact h2 u (List.mem_append_left _ hu) c hc
    · rcases List.mem_cons.1 hu with rfl | hu
      · cases hc
      · exact h2 u (List.mem_append_right _ hu) c hc
theorem ok_storeNilT {T T' E : TypeId} {r : Rep α} {q : Rep β} {l1 l2 : List TipS} {s off sz : Nat} {x : Operand} {y : α} {get : α → List β} {set : α → List β → α} {y' : α} (l : Lens r (Rep.slice q) off get set) (t : TyOk P T (Rep.slice q)) (hap : apartB off 1 (l1 ++ l2) = true) (hd : o.dst = none)
    (ho : o.op = .store T x (.const (.slice none 0 0))) (hx : OpdOk N x (fOff s off)) (hy' : y' = set y []) : OpOk P o N [(s, boxT T' r y (l1 ++ l2))] Fact.triv [(s, some (boxT T' r y' (l1 ++ ⟨off, E, sz⟩ :: l2)))] := by
  subst hy'
  intro κ B F L h a w hst hn hk _ next Q hnext
  obtain ⟨b, hdv, hxv⟩ := hx h a hn
  obtain ⟨e, hL, b', us, hv', hta, hbo, rfl⟩ := hk.1
  have hd' : a.gt s = .pointer (some ⟨b, 0, none⟩) := hdv
  rw [hd'] at hv'; cases hv'
  have hc' : (Rep.slice q).rel h [nilV] [] := ⟨_, rfl, .inl ⟨⟨none, rfl⟩, rfl⟩⟩
  obtain ⟨p, c, q', hp, hrun, hcl, hmem, hrel, hget, hst'⟩ := run_storeT l t hst hL hbo (List.Sublist.refl us) (fun u hu => by
    obtain ⟨t, ht, e⟩ := hta.offs u hu; rw [e]; exact apartB_spec hap t ht) hc'
  unfold Oper.wp
  have : (execOp a.eval o).run P w = .ok .skip (w.setRow b (p ++ [nilV] ++ q').toArray) := by
    have hrun' : (Instr.storeAt T (.pointer (some ⟨b, off, none⟩)) (a.eval (.const (.slice none 0 0)))).run P w = .ok () (w.setRow b (p ++ [nilV] ++ q').toArray) := hrun
    simp only [execOp, ho, hxv, Sem.run_bind, hrun', Result.andThen_ok, Sem.run_pure]
  rw [this]
  obtain ⟨us1, us2, rfl, h3, h4⟩ := hta.cut
  have hta' : TipsAre (l1 ++ ⟨off, E, sz⟩ :: l2) (us1 ++ (off, nilV, nilEnt) :: us2) := TipsAre.app (l2 := ⟨off, E, sz⟩ :: l2) (us2 := (off, nilV, nilEnt) :: us2) ⟨⟨rfl, .inl ⟨none, 0, rfl, rfl⟩⟩, h4⟩ h3
  obtain ⟨_, hu2⟩ := boxT_at hst' set1_at
  have hsw := hst'.swap (e' := boxTEnt b T' r (set y []) (us1 ++ (off, nilV, nilEnt) :: us2)) set1_at (fun c hc => by
    refine ⟨c, ?_, rfl, Nat.le_refl _⟩
    simpa [boxTEnt, usCl, nilEnt] using hc) ⟨⟨_, hmem, hrel, fun u hu => by
      rcases List.mem_append.1 hu with hu | hu
      · exact hget u (List.mem_append_left _ hu)
      · rcases List.mem_cons.1 hu with rfl | hu
        · simp only []
          rw [List.append_assoc, List.getElem?_append_right (by omega), hp]; simp
        · exact hget u (List.mem_append_right _ hu)⟩, fun u hu => by
      rcases List.mem_append.1 hu with hu | hu
      · exact hu2 u (List.mem_append_left _ hu)
      · rcases List.mem_cons.1 hu with rfl | hu
        · trivial
        · exact hu2 u (List.mem_append_right _ hu)⟩
  rw [set1_set1] at hsw
  refine hnext undef h _ _ (Hle.refl h) trivial hsw ?_
  rw [hd]
  exact upd_set1 ⟨b, _, hd', hta', hbo.nil, rfl⟩

/- the row is taken out to be appended to -/
theorem upd_set2 {L : Nat → Option Ent} {s d : Nat} {e1 e2 : Ent} {q1 q2 : OwnP} {a : Act} (hsd : s ≠ d) (h1 : q1 (a.gt s) e1) (h2 : q2 (a.gt d) e2) : UpdOk L (set1 (set1 L s e1) d e2) (full [(s, some q1), (d, some q2)] (some d)) a := by
  intro k
  have hsd' : Nat.beq s d = false := by rw [Bool.eq_false_iff, Ne, nbeq]; exact hsd
  by_cases hk : k = d
  · subst hk
    have : lkU (full [(s, some q1), (k, some q2)] (some k)) k = some (some q2) := by simp [full, lkU, hsd', Nat.beq_refl]
    rw [this]; exact ⟨e2, by simp [set1], h2⟩
  · have h3 : Nat.beq d k = false := by rw [Bool.eq_false_iff, Ne, nbeq]; exact fun x => hk x.symm
    by_cases hk2 : k = s
    · subst hk2
      have : lkU (full [(k, some q1), (d, some q2)] (some d)) k = some (some q1) := by simp [full, lkU, Nat.beq_refl]
      rw [this]; exact ⟨e1, by simp [set1, hk], h1⟩
    · have h4 : Nat.beq s k = false := by rw [Bool.eq_false_iff, Ne, nbeq]; exact fun x => hk2 x.symm
      have : lkU (full [(s, some q1), (d, some q2)] (some d)) k = none := by simp [full, lkU, h3, h4]
      rw [this]; simp [set1, hk, hk2]
theorem ok_loadTip {T T' E : TypeId} {r : Rep α} {q : Rep β} {l1 l2 : List TipS} {s d off sz : Nat} {x : Operand} {y : α} {get : α → List β} {set : α → List β → α} (l : Lens r (Rep.slice q) off get set) (t : TyOk P T (Rep.slice q)) (hsd : Nat.beq s d = false) (hd : o.dst = some d) (ho : o.op = .load T x) (hx : OpdOk N x (fOff s off)) :
    OpOk P o N [(s, boxT T' r y (l1 ++ ⟨off, E, sz⟩ :: l2))] (fV (Rep.slice q) (get y)) [(s, some (boxT T' r y (l1 ++ l2))), (d, some (tipE E sz))] := by
  have hne : s ≠ d := fun x => by rw [nbeq.2 x] at hsd; cases hsd
  intro κ B F L h a w hst hn hk hdn next Q hnext
  obtain ⟨b, hdv, hv⟩ := hx h a hn
  obtain ⟨e, hL, b', us, hv', hta, hbo, rfl⟩ := hk.1
  have hd' : a.gt s = .pointer (some ⟨b, 0, none⟩) := hdv
  rw [hd'] at hv'; cases hv'
  obtain ⟨us1, u0, us2, rfl, hoff, htip, h3, h4⟩ := hta.mid
  simp only [] at hoff htip
  have hsub : (us1 ++ us2).Sublist (us1 ++ u0 :: us2) := (List.Sublist.refl us1).append (List.sublist_cons_self _ _)
  obtain ⟨⟨cs, hb, hr, hu1⟩, hu2⟩ := boxT_at hst hL
  have hm0 : u0 ∈ us1 ++ u0 :: us2 := List.mem_append_right _ List.mem_cons_self
  obtain ⟨p, c, q', rfl, hp, hc, _⟩ := l h cs y hr
  have hcl := (Rep.slice q).len hc
  obtain ⟨c0, rfl, hc0⟩ := hc
  have hcv : c0 = u0.2.1 := by
    have := hu1 u0 hm0
    rw [hoff, List.append_assoc, List.getElem?_append_right (by omega), hp] at this
    simpa using this
  have hrun := run_load_cells (b := b) (off := off) (w := w) t hcl (fun j v hj => by
    rw [cell?_eq _ _ _ _ _ _ hb]
    have hjl := (List.getElem?_eq_some_iff.1 hj).1
    simp only [List.getElem?_toArray]
    rw [List.append_assoc, List.getElem?_append_right (by omega), ← hp, Nat.add_sub_cancel_left, List.getElem?_append_left hjl]; exact hj)
  unfold Oper.wp
  have : (execOp a.eval o).run P w = .ok (.value c0) w := by
    have hrun' : (Instr.loadAt T (.pointer (some ⟨b, off, none⟩))).run P w = .ok c0 w := hrun
    simp [execOp, ho, hv, hrun']
  rw [this]
  have hpw := hbo.1
  rw [List.map_append, List.pairwise_append] at hpw
  obtain ⟨_, k2, k3⟩ := hpw
  have k4 := List.pairwise_cons.1 k2
  have hdis : Disj ((b, 0) :: usCl (us1 ++ us2)) u0.2.2.claims := by
    intro c hc c' hc'
    rcases List.mem_cons.1 hc with rfl | hc
    · exact (hbo.2 u0 hm0 c' hc').symm
    · obtain ⟨u, hu, hcu⟩ := List.mem_flatMap.1 hc
      rcases List.mem_append.1 hu with hu | hu
      · exact k3 _ (List.mem_map.2 ⟨u, hu, rfl⟩) _ (List.mem_cons_self) c hcu c' hc'
      · exact (k4.1 _ (List.mem_map.2 ⟨u, hu, rfl⟩) c' hc' c hcu).symm
  have hst' := hst.split2 (d := d) (e1 := boxTEnt b T' r y (us1 ++ us2)) (e2 := u0.2.2) hL hne (fun c hc => by
      rcases List.mem_cons.1 hc with rfl | hc
      · exact List.mem_cons_self
      · exact List.mem_cons_of_mem _ (usCl_sub hsub c hc)) (fun c hc => List.mem_cons_of_mem _ (List.mem_flatMap.2 ⟨u0, hm0, hc⟩)) hdis
    ⟨⟨_, hb, hr, fun u hu => hu1 u (hsub.subset hu)⟩, fun u hu => hu2 u (hsub.subset hu)⟩ (hu2 u0 hm0)
  refine hnext _ h w _ (Hle.refl h) (val_slice.2 hc0) hst' ?_
  rw [hd]
  exact upd_set2 hne (by rw [gt_put_ne hne]; exact ⟨b, _, hd', h4.app h3, hbo.sub hsub, rfl⟩) (by rw [gt_put_same (hdn d hd), hcv]; exact htip)
/- .. and put back -/
theorem upd_join2 {L : Nat → Option Ent} {s d : Nat} {e : Ent} {q : OwnP} {a : Act} (hsd : s ≠ d) (hq : q (a.gt s) e) : UpdOk L (join2 L s d e) (full [(s, some q), (d, none)] none) a := by
  intro k
  by_cases hk : k = s
  · subst hk
    have : lkU (full [(k, some q), (d, none)] none) k = some (some q) := by simp [full, lkU, Nat.beq_refl]
    rw [this]; exact ⟨e, by simp [join2, hsd], hq⟩
  · have h4 : Nat.beq s k = false := by rw [Bool.eq_false_iff, Ne, nbeq]; exact fun x => hk x.symm
    by_cases hk2 : k = d
    · subst hk2
      have : lkU (full [(s, some q), (k, none)] none) k = some none := by simp [full, lkU, h4, Nat.beq_refl]
      rw [this]; trivial
    · have h3 : Nat.beq d k = false := by rw [Bool.eq_false_iff, Ne, nbeq]; exact fun x => hk2 x.symm
      have : lkU (full [(s, some q), (d, none)] none) k = none := by simp [full, lkU, h3, h4]
      rw [this]; simp [join2, hk, hk2]
theorem ok_storeTip {T T' E : TypeId} {r : Rep α} {q : Rep β} {l1 l2 : List TipS} {s d off sz : Nat} {x : Operand} {y : α} {zs : List β} {get : α → List β} {set : α → List β → α} {y' : α} (l : Lens r (Rep.slice q) off get set) (t : TyOk P T (Rep.slice q)) (hap : apartB off 1 (l1 ++ l2) = true) (hsd : Nat.beq s d = false) (hd : o.dst = none)
    (ho : o.op = .store T x (.tmp d)) (hx : OpdOk N x (fOff s off)) (hv : OpdOk N (.tmp d) (fV (Rep.slice q) zs)) (hy' : y' = set y zs) : OpOk P o N [(s, boxT T' r y (l1 ++ l2)), (d, tipE E sz)] Fact.triv [(s, some (boxT T' r y' (l1 ++ ⟨off, E, sz⟩ :: l2))), (d, none)] := by
  subst hy'
  have hne : s ≠ d := fun x => by rw [nbeq.2 x] at hsd; cases hsd
  intro κ B F L h a w hst hn hk _ next Q hnext
  obtain ⟨b, hdv, hxv⟩ := hx h a hn
  obtain ⟨e, hL, b', us, hv', hta, hbo, rfl⟩ := hk.1
  obtain ⟨et, hLt, htip⟩ := hk.2.1
  have hLt : L d = some et := hLt
  have htip : tipE E sz (a.gt d) et := htip
  have hd' : a.gt s = .pointer (some ⟨b, 0, none⟩) := hdv
  rw [hd'] at hv'; cases hv'
  obtain ⟨c', hc', hvv⟩ := hv h a hn
  have hvd : a.gt d = pack (Rep.slice q).agg c' := hvv
  obtain ⟨p, c, q', hp, hrun, hcl, hmem, hrel, hget, hst'⟩ := run_storeT l t hst hL hbo (List.Sublist.refl us) (fun u hu => by
    obtain ⟨t, ht, e⟩ := hta.offs u hu; rw [e]; exact apartB_spec hap t ht) hc'
  obtain ⟨c0, rfl, hc0⟩ := hc'
  have hvd : a.gt d = c0 := hvd
  unfold Oper.wp
  have : (execOp a.eval o).run P w = .ok .skip (w.setRow b (p ++ [c0] ++ q').toArray) := by
    simp only [execOp, ho, hxv, hvv, Sem.run_bind, hrun, Result.andThen_ok, Sem.run_pure]
  rw [this]
  obtain ⟨us1, us2, rfl, h3, h4⟩ := hta.cut
  have hta' : TipsAre (l1 ++ ⟨off, E, sz⟩ :: l2) (us1 ++ (off, c0, et) :: us2) := TipsAre.app (l2 := ⟨off, E, sz⟩ :: l2) (us2 := (off, c0, et) :: us2) ⟨⟨rfl, by rw [← hvd]; exact htip⟩, h4⟩ h3
  have hLd' : set1 L s (boxTEnt b T' r (set y zs) (us1 ++ us2)) d = some et := by simp [set1, Ne.symm hne, hLt]
  have hdj : Disj ((b, 0) :: usCl (us1 ++ us2)) et.claims := hst.disj (k := Sum.inl s) (k' := Sum.inl d) hL hLt (fun x => hne (Sum.inl.inj x))
  have hbo' : BoxOk b (us1 ++ (off, c0, et) :: us2) := by
    obtain ⟨g1, g2⟩ := hbo
    constructor
    · rw [List.map_append, List.pairwise_append] at g1 ⊢
      obtain ⟨k1, k2, k3⟩ := g1
      refine ⟨k1, List.Pairwise.cons (fun l hl c hc c' hc' => ?_) k2, fun x hx y hy => ?_⟩
      · obtain ⟨u, hu, rfl⟩ := List.mem_map.1 hl
        exact (hdj c' (List.mem_cons_of_mem _ (List.mem_flatMap.2 ⟨u, List.mem_append_right _ hu, hc'⟩)) c hc).symm
      · rcases List.mem_cons.1 hy with rfl | hy
        · intro c hc c' hc'
          obtain ⟨u, hu, rfl⟩ := List.mem_map.1 hx
          exact hdj c (List.mem_cons_of_mem _ (List.mem_flatMap.2 ⟨u, List.mem_append_left _ hu, hc⟩)) c' hc'
        · exact k3 x hx y hy
    · intro u hu c hc
      rcases List.mem_append.1 hu with hu | hu
      · exact g2 u (List.mem_append_left _ hu) c hc
      · rcases List.mem_cons.1 hu with rfl | hu
        · exact (hdj (b, 0) List.mem_cons_self c hc).symm
        · exact g2 u (List.mem_append_right _ hu) c hc
  obtain ⟨_, hu2⟩ := boxT_at hst' set1_at
  have hokt : et.ok h (World.mem (w.setRow b (p ++ [c0] ++ q').toArray)) := (hst'.own (k := Sum.inl d) hLd').2
  have hj := hst'.join2 (e := boxTEnt b T' r (set y zs) (us1 ++ (off, c0, et) :: us2)) set1_at hLd' (fun c hc => by
    rcases List.mem_cons.1 hc with rfl | hc
    · exact .inl List.mem_cons_self
    · obtain ⟨u, hu, hcu⟩ := List.mem_flatMap.1 hc
      rcases List.mem_append.1 hu with hu | hu
      · exact .inl (List.mem_cons_of_mem _ (List.mem_flatMap.2 ⟨u, List.mem_append_left _ hu, hcu⟩))
      · rcases List.mem_cons.1 hu with rfl | hu
        · exact .inr hcu
        · exact .inl (List.mem_cons_of_mem _ (List.mem_flatMap.2 ⟨u, List.mem_append_right _ hu, hcu⟩))) ⟨⟨_, hmem, hrel, fun u hu => by
      rcases List.mem_append.1 hu with hu | hu
      · exact hget u (List.mem_append_left _ hu)
      · rcases List.mem_cons.1 hu with rfl | hu
        · simp only []
          rw [List.append_assoc, List.getElem?_append_right (by omega), hp]; simp
        · exact hget u (List.mem_append_right _ hu)⟩, fun u hu => by
      rcases List.mem_append.1 hu with hu | hu
      · exact hu2 u (List.mem_append_left _ hu)
      · rcases List.mem_cons.1 hu with rfl | hu
        · exact hokt
        · exact hu2 u (List.mem_append_right _ hu)⟩
  have hL' : join2 (set1 L s (boxTEnt b T' r (set y zs) (us1 ++ us2))) s d (boxTEnt b T' r (set y zs) (us1 ++ (off, c0, et) :: us2)) = join2 L s d (boxTEnt b T' r (set y zs) (us1 ++ (off, c0, et) :: us2)) := by
    funext k; unfold join2 set1
    by_cases h1 : k = d
    · rw [if_pos h1, if_pos h1]
    · rw [if_neg h1, if_neg h1]
      by_cases h2 : k = s
      · rw [if_pos h2, if_pos h2]
      · rw [if_neg h2, if_neg h2, if_neg h2]
  rw [hL'] at hj
  refine hnext undef h _ _ (Hle.refl h) trivial hj ?_
  rw [hd]
  exact upd_join2 hne ⟨b, _, hd', hta', hbo', rfl⟩
/- one of them is not appended to any more -/
theorem At.dropT {κ : Type} {B : Base} {h0 : H} {Γ : Ctx} {Λ : Own} {F : κ → Option Ent} {n : Nat} {a : Act} {w : World} {T : TypeId} {r : Rep α} {x : α} {l1 l2 : List TipS} {t0 : TipS} (s : Nat) (hAt : At B h0 Γ Λ F n a w) (hs : Λ s = some (boxT T r x (l1 ++ t0 :: l2))) :
    At B h0 Γ (fun k => bif Nat.beq s k then some (boxT T r x (l1 ++ l2)) else Λ k) F n a w := by
  obtain ⟨h, L, hle, hst, hOw, hsat, hsz, hdf⟩ := hAt
  obtain ⟨e, hL, b, us, hv, hta, hbo, rfl⟩ := hOw s _ hs
  obtain ⟨us1, u0, us2, rfl, _, _, h3, h4⟩ := hta.mid
  have hsub : (us1 ++ us2).Sublist (us1 ++ u0 :: us2) := (List.Sublist.refl us1).append (List.sublist_cons_self _ _)
  obtain ⟨⟨cs, hb, hr, hu1⟩, hu2⟩ := boxT_at hst hL
  have hst' := hst.swap (e' := boxTEnt b T r x (us1 ++ us2)) hL (fun c hc => by
    refine ⟨c, ?_, rfl, Nat.le_refl _⟩
    rcases List.mem_cons.1 hc with rfl | hc
    · exact List.mem_cons_self
    · exact List.mem_cons_of_mem _ (usCl_sub hsub c hc)) ⟨⟨cs, hb, hr, fun u hu => hu1 u (hsub.subset hu)⟩, fun u hu => hu2 u (hsub.subset hu)⟩
  refine ⟨h, _, hle, hst', ?_, hsat, hsz, hdf⟩
  intro k q hq
  cases hk : Nat.beq s k with
  | true =>
    simp only [hk, cond_true] at hq
    cases hq
    rw [nbeq] at hk; subst hk
    exact ⟨_, set1_at, b, _, hv, h4.app h3, hbo.sub hsub, rfl⟩
  | false =>
    simp only [hk, cond_false] at hq
    obtain ⟨e, he, hqe⟩ := hOw k q hq
    have : k ≠ s := fun x => by rw [nbeq.2 x.symm] at hk; cases hk
    exact ⟨e, by simp [set1, this, he], hqe⟩
end Go.KB
