/- The logic of this seat's proofs: what is known of memory. No condition. -/
import Derived.Calls
import Derived.Orders
import Derived.Below
import Derived.KernelRfl
namespace Go.KB

/- persistent memory: what is known of cells that are never written again -/
abbrev H := Nat → Nat → Option Value
def Hle (h h' : H) : Prop := ∀ b o v, h b o = some v → h' b o = some v
theorem Hle.refl (h : H) : Hle h h := fun _ _ _ x => x
theorem Hle.trans {a b c : H} (x : Hle a b) (y : Hle b c) : Hle a c := fun _ _ _ k => y _ _ _ (x _ _ _ k)

/- something owned: the blocks that it claims (each from an offset on), and what they hold -/
structure Ent where
  claims : List (Nat × Nat)
  ok : H → (Nat → Option Obj) → Prop
  mono : ∀ {h h' m}, Hle h h' → ok h m → ok h' m
  frame : ∀ {h m m'}, (∀ c ∈ claims, m' c.1 = m c.1) → ok h m → ok h m'

structure Base where
  n : Nat
  w : World

def World.mem (w : World) : Nat → Option Obj := fun b => w.heap[b]?

structure St {κ : Type} (B : Base) (h : H) (L : κ → Option Ent) (w : World) : Prop where
  low : B.n ≤ w.heap.size
  base : RowKit.Below B.n B.w w
  ext : ∀ {b o v}, h b o = some v → w.cell? ⟨b, o, none⟩ = some v
  own : ∀ {k e}, L k = some e → (∀ c ∈ e.claims, B.n ≤ c.1 ∧ c.1 < w.heap.size ∧ ∀ o, c.2 ≤ o → h c.1 o = none) ∧ e.ok h (World.mem w)
  disj : ∀ {k k' e e'}, L k = some e → L k' = some e' → k ≠ k' → ∀ c ∈ e.claims, ∀ c' ∈ e'.claims, c.1 ≠ c'.1

section
variable {κ : Type} {B : Base} {h : H} {L : κ → Option Ent} {w : World}

theorem St.drawn (s : St B h L w) (n : Nat) : St B h L { w with drawn := n } :=
  ⟨s.low, ⟨s.base.os, s.base.tape, s.base.output, s.base.size, s.base.block⟩, fun x => s.ext x, fun x => s.own x, fun x => s.disj x⟩

/- fewer entries, or the same under other names -/
theorem St.reind {κ' : Type} {L' : κ' → Option Ent} (s : St B h L w) (f : κ' → κ) (hf : ∀ k' e, L' k' = some e → L (f k') = some e)
    (hi : ∀ k k' e e', L' k = some e → L' k' = some e' → k ≠ k' → f k ≠ f k') : St B h L' w :=
  ⟨s.low, s.base, fun x => s.ext x, fun x => s.own (hf _ _ x), fun x y n => s.disj (hf _ _ x) (hf _ _ y) (hi _ _ _ _ x y n)⟩
theorem St.less {L' : κ → Option Ent} (s : St B h L w) (hf : ∀ k e, L' k = some e → L k = some e) : St B h L' w :=
  s.reind id hf (fun _ _ _ _ _ _ n => n)

theorem St.lt (s : St B h L w) {b o v} (x : h b o = some v) : b < w.heap.size := World.block_lt_of_cell? w ⟨b, o, none⟩ (s.ext x)
theorem St.fresh (s : St B h L w) {b : Nat} (hb : w.heap.size ≤ b) (o : Nat) : h b o = none := by
  cases hh : h b o with
  | none => rfl
  | some v => have := s.lt hh; omega

theorem cell?_eq (w : World) (b o : Nat) (c : Array Value) (t : TypeId) (fr : Nat × Nat) (hb : w.heap[b]? = some (.cells c t fr)) : w.cell? ⟨b, o, none⟩ = c[o]? := by
  simp [World.cell?, hb]
theorem heap_push_lt (w : World) (o : Obj) {b : Nat} (hb : b < w.heap.size) : (w.alloc o).heap[b]? = w.heap[b]? := heap_alloc_old w o b hb

/- memory goes on: what is touched is new, or was claimed by the entry of one key; that entry is replaced -/
theorem St.step (s : St B h L w) (k : κ) (T : Nat → Prop) {L' : κ → Option Ent} {h' : H} {w' : World}
    (hT : ∀ b, T b → b < w.heap.size → ∃ e, L k = some e ∧ ∃ c ∈ e.claims, c.1 = b)
    (hsz : w.heap.size ≤ w'.heap.size) (hos : w'.os = w.os) (htp : w'.tape = w.tape) (hout : w'.output = w.output)
    (hw : ∀ b, b < w.heap.size → ¬ T b → w'.heap[b]? = w.heap[b]?)
    (hle : Hle h h') (hh : ∀ b o, b < w.heap.size → ¬ T b → h' b o = h b o)
    (hext : ∀ b o v, (T b ∨ w.heap.size ≤ b) → h' b o = some v → w'.cell? ⟨b, o, none⟩ = some v)
    (hL : ∀ k' e, k' ≠ k → L' k' = some e → L k' = some e)
    (hk : ∀ e, L' k = some e → (∀ c ∈ e.claims, (w.heap.size ≤ c.1 ∨ ∃ e0, L k = some e0 ∧ ∃ c0 ∈ e0.claims, c0.1 = c.1) ∧ c.1 < w'.heap.size ∧ ∀ o, c.2 ≤ o → h' c.1 o = none) ∧ e.ok h' (World.mem w')) :
    St B h' L' w' := by
  have hTB : ∀ b, T b → b < w.heap.size → B.n ≤ b := by
    intro b hb hlt
    obtain ⟨e, he, c, hc, rfl⟩ := hT b hb hlt
    exact ((s.own he).1 c hc).1
  have hother : ∀ k' e, k' ≠ k → L k' = some e → ∀ c ∈ e.claims, ¬ T c.1 := by
    intro k' e hne he c hc ht
    have hlt := ((s.own he).1 c hc).2.1
    obtain ⟨e0, he0, c0, hc0, heq⟩ := hT c.1 ht hlt
    exact s.disj he he0 hne c hc c0 hc0 heq.symm
  refine ⟨Nat.le_trans s.low hsz, s.base.trans ⟨hos, htp, hout, hsz, fun i hi => hw i (Nat.lt_of_lt_of_le hi s.low) ?_⟩, ?_, ?_, ?_⟩
  · intro ht
    have := hTB i ht (Nat.lt_of_lt_of_le hi s.low); omega
  · intro b o v hv
    by_cases ht : T b ∨ w.heap.size ≤ b
    · exact hext b o v ht hv
    · have h1 : ¬ T b := fun x => ht (.inl x)
      have h2 : b < w.heap.size := Nat.lt_of_not_le fun x => ht (.inr x)
      rw [hh b o h2 h1] at hv
      rw [← s.ext hv]
      exact World.cell?_of_block (hw b h2 h1)
  · intro k' e he
    by_cases hkk : k' = k
    · subst hkk
      obtain ⟨h1, h2⟩ := hk e he
      refine ⟨fun c hc => ?_, h2⟩
      obtain ⟨h3, h4, h5⟩ := h1 c hc
      refine ⟨?_, h4, h5⟩
      rcases h3 with h3 | ⟨e0, he0, c0, hc0, h6⟩
      · exact Nat.le_trans s.low h3
      · rw [← h6]; exact ((s.own he0).1 c0 hc0).1
    · have he' := hL k' e hkk he
      obtain ⟨h1, h2⟩ := s.own he'
      have hnt := hother k' e hkk he'
      refine ⟨fun c hc => ?_, e.mono hle (e.frame (fun c hc => hw c.1 (h1 c hc).2.1 (hnt c hc)) h2)⟩
      obtain ⟨h3, h4, h5⟩ := h1 c hc
      exact ⟨h3, Nat.lt_of_lt_of_le h4 hsz, fun o ho => by rw [hh c.1 o h4 (hnt c hc)]; exact h5 o ho⟩
  · have key : ∀ {k1 k2 e1 e2}, L' k1 = some e1 → L' k2 = some e2 → k1 ≠ k2 → k1 ≠ k → ∀ c ∈ e1.claims, ∀ c' ∈ e2.claims, c.1 ≠ c'.1 := by
      intro k1 k2 e1 e2 x1 x2 hne hk1 c hc c' hc' heq
      have x1' := hL _ _ hk1 x1
      have hlt := ((s.own x1').1 c hc).2.1
      by_cases hk2 : k2 = k
      · subst hk2
        rcases ((hk _ x2).1 c' hc').1 with h3 | ⟨e0, he0, c0, hc0, h6⟩
        · omega
        · exact s.disj x1' he0 hne c hc c0 hc0 (heq.trans h6.symm)
      · exact s.disj x1' (hL _ _ hk2 x2) hne c hc c' hc' heq
    intro k1 k2 e1 e2 x1 x2 hne c hc c' hc' heq
    by_cases hk1 : k1 = k
    · exact key x2 x1 (Ne.symm hne) (fun e => hne (hk1.trans e.symm)) c' hc' c hc heq.symm
    · exact key x1 x2 hne hk1 c hc c' hc' heq

/- persistent memory with more cells in one block -/
def hadd (h : H) (b : Nat) (cs : List Value) : H := fun b' o => if b' = b then (if o < cs.length then cs[o]? else h b' o) else h b' o
theorem hadd_old {h : H} {b : Nat} {cs : List Value} {b' o : Nat} (hb : b' ≠ b) : hadd h b cs b' o = h b' o := by simp [hadd, hb]
theorem hadd_new {h : H} {b : Nat} {cs : List Value} {o : Nat} (ho : o < cs.length) : hadd h b cs b o = some cs[o] := by simp [hadd, ho]
theorem hadd_beyond {h : H} {b : Nat} {cs : List Value} {o : Nat} (ho : cs.length ≤ o) : hadd h b cs b o = h b o := by
  unfold hadd; rw [if_pos rfl, if_neg (by omega)]
theorem hadd_le {h : H} {b : Nat} {cs : List Value} (hc : ∀ o v, h b o = some v → o < cs.length → cs[o]? = some v) : Hle h (hadd h b cs) := by
  intro b' o v x
  unfold hadd
  split
  · rename_i hb; subst hb
    split
    · rename_i ho; exact hc o v x ho
    · exact x
  · exact x

/- a new block whose cells are never written -/
theorem St.allocP (s : St B h L w) (cs : List Value) (t : TypeId) : Hle h (hadd h w.heap.size cs) ∧ St B (hadd h w.heap.size cs) L (w.alloc (.cells cs.toArray t)) := by
  have hle : Hle h (hadd h w.heap.size cs) := hadd_le (fun o v x _ => by rw [s.fresh (Nat.le_refl _)] at x; cases x)
  refine ⟨hle, ?_⟩
  have key : St B (hadd h w.heap.size cs) (fun k : Option κ => match k with | some k => L k | none => none) (w.alloc (.cells cs.toArray t)) := by
    have s' : St B h (fun k : Option κ => match k with | some k => L k | none => none) w := by
      refine ⟨s.low, s.base, fun x => s.ext x, ?_, ?_⟩
      · intro k e he; cases k with
        | none => cases he
        | some k => exact s.own he
      · intro k k' e e' he he' hne; cases k with
        | none => cases he
        | some k => cases k' with
          | none => cases he'
          | some k' => exact s.disj he he' (fun x => hne (by rw [x]))
    refine s'.step none (fun b => b = w.heap.size) (fun b hb hlt => by omega) (by simp) rfl rfl rfl (fun b hb _ => heap_push_lt w _ hb) hle (fun b o hb _ => hadd_old (by omega)) ?_ (fun k' e _ he => he) (fun e he => by cases he)
    intro b o v hb hv
    by_cases hbs : b = w.heap.size
    · subst hbs
      rw [cell?_eq _ _ _ _ _ _ (heap_alloc_new w _)]
      unfold hadd at hv
      rw [if_pos rfl] at hv
      split at hv
      · simpa using hv
      · rw [s.fresh (Nat.le_refl _)] at hv; cases hv
    · rw [hadd_old hbs, s.fresh (by rcases hb with hb | hb <;> omega)] at hv; cases hv
  exact key.reind some (fun _ _ x => x) (fun _ _ _ _ _ _ n e => n (Option.some.inj e))

/- a new block, owned by the key k -/
theorem St.alloc (s : St B h L w) (o : Obj) (k : κ) {L' : κ → Option Ent} (hL : ∀ k' e, k' ≠ k → L' k' = some e → L k' = some e)
    (hk : ∀ e, L' k = some e → (∀ c ∈ e.claims, c.1 = w.heap.size) ∧ e.ok h (World.mem (w.alloc o))) : St B h L' (w.alloc o) := by
  refine s.step k (fun b => b = w.heap.size) (fun b hb hlt => by omega) (by simp) rfl rfl rfl (fun b hb _ => heap_push_lt w _ hb) (Hle.refl h) (fun _ _ _ _ => rfl) ?_ hL ?_
  · intro b o' v hb hv
    rw [s.fresh (by rcases hb with hb | hb <;> omega)] at hv; cases hv
  · intro e he
    obtain ⟨h1, h2⟩ := hk e he
    refine ⟨fun c hc => ?_, h2⟩
    have := h1 c hc
    exact ⟨.inl (by omega), by simp; omega, fun o' _ => s.fresh (by omega) o'⟩

/- one owned block is written -/
theorem St.write (s : St B h L w) (k : κ) {e : Ent} (hk : L k = some e) {b lo : Nat} (hb : (b, lo) ∈ e.claims) {w' : World} {c : Array Value} {t : TypeId} {fr : Nat × Nat}
    (hw : w'.heap[b]? = some (.cells c t fr)) (hwo : ∀ i, i ≠ b → w'.heap[i]? = w.heap[i]?) (hsz : w'.heap.size = w.heap.size) (hos : w'.os = w.os) (htp : w'.tape = w.tape) (hout : w'.output = w.output)
    (hold : ∀ o v, h b o = some v → c[o]? = some v) {L' : κ → Option Ent} (hL : ∀ k' e, k' ≠ k → L' k' = some e → L k' = some e)
    (hk' : ∀ e', L' k = some e' → (∀ c ∈ e'.claims, c ∈ e.claims) ∧ e'.ok h (World.mem w')) : St B h L' w' := by
  obtain ⟨hcl, _⟩ := s.own hk
  refine s.step k (fun i => i = b) ?_ (by omega) hos htp hout (fun i _ hi => hwo i hi) (Hle.refl h) (fun _ _ _ _ => rfl) ?_ hL ?_
  · intro i hi _; subst hi; exact ⟨e, hk, _, hb, rfl⟩
  · intro i o v hi hv
    by_cases hib : i = b
    · subst hib; rw [cell?_eq _ _ _ _ _ _ hw]; exact hold o v hv
    · rw [s.fresh (by rcases hi with hi | hi <;> omega)] at hv; cases hv
  · intro e' he'
    obtain ⟨h1, h2⟩ := hk' e' he'
    refine ⟨fun c hc => ?_, h2⟩
    obtain ⟨h3, h4, h5⟩ := hcl c (h1 c hc)
    exact ⟨.inr ⟨e, hk, c, h1 c hc, rfl⟩, by omega, h5⟩

/- the first cells of an owned block are never written again -/
theorem St.freeze (s : St B h L w) (k : κ) {e : Ent} (hk : L k = some e) {b lo : Nat} (hb : (b, lo) ∈ e.claims) {c : Array Value} {t : TypeId} {fr : Nat × Nat} (hc : w.heap[b]? = some (.cells c t fr))
    (n : Nat) (hn : n ≤ c.size) {L' : κ → Option Ent} (hL : ∀ k' e, k' ≠ k → L' k' = some e → L k' = some e)
    (hk' : ∀ e', L' k = some e' → (∀ q ∈ e'.claims, (∃ q0 ∈ e.claims, q0.1 = q.1 ∧ q0.2 ≤ q.2) ∧ (q.1 = b → n ≤ q.2)) ∧ e'.ok (hadd h b (c.toList.take n)) (World.mem w)) :
    Hle h (hadd h b (c.toList.take n)) ∧ St B (hadd h b (c.toList.take n)) L' w := by
  have hcell : ∀ o, w.cell? ⟨b, o, none⟩ = c[o]? := fun o => cell?_eq _ _ _ _ _ _ hc
  have hlen : (c.toList.take n).length = n := by simp; omega
  have hle : Hle h (hadd h b (c.toList.take n)) := hadd_le (fun o v x ho => by
    have := s.ext x
    rw [hcell] at this
    rw [List.getElem?_take]; rw [hlen] at ho; simpa [ho] using this)
  obtain ⟨hcl, _⟩ := s.own hk
  refine ⟨hle, s.step k (fun i => i = b) ?_ (Nat.le_refl _) rfl rfl rfl (fun _ _ _ => rfl) hle (fun i o _ hi => hadd_old hi) ?_ hL ?_⟩
  · intro i hi _; subst hi; exact ⟨e, hk, _, hb, rfl⟩
  · intro i o v hi hv
    by_cases hib : i = b
    · subst hib
      unfold hadd at hv
      rw [if_pos rfl] at hv
      split at hv
      · rename_i ho
        rw [hcell]; rw [hlen] at ho
        rw [List.getElem?_take] at hv; simpa [ho] using hv
      · exact s.ext hv
    · rw [hadd_old hib, s.fresh (by rcases hi with hi | hi <;> omega)] at hv; cases hv
  · intro e' he'
    obtain ⟨h1, h2⟩ := hk' e' he'
    refine ⟨fun q hq => ?_, h2⟩
    obtain ⟨⟨q0, hq0, h3, h4⟩, h5⟩ := h1 q hq
    obtain ⟨h6, h7, h8⟩ := hcl q0 hq0
    refine ⟨.inr ⟨e, hk, q0, hq0, h3⟩, by omega, fun o ho => ?_⟩
    by_cases hqb : q.1 = b
    · rw [hqb, hadd_beyond (by rw [hlen]; have := h5 hqb; omega), ← hqb, ← h3]
      exact h8 o (by omega)
    · rw [hadd_old hqb, ← h3]; exact h8 o (by omega)
end
end Go.KB
