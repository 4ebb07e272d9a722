/- The entries that count: what accounts and balances depend on; a renumbering changes nothing. Lists of entries: which entry an order, an item has; what is live; when a post is accepted. Lists of entries that are accepted one after another, and what is left of them: the live entries, with new numbers. What is left is accepted, one after another; its entries that count are those of the whole, renumbered. No condition. -/
import Derived.Test.YtkflmfhgpjpepaaGreatDoorGPure
namespace Go.KB
set_option linter.unusedVariables false
abbrev jF0 := List (Int × GPost)
def jPv (E : jF0) (n k : Int) : Option (Int × GPost) := (E.filter fun e => decide (n < e.1) && decide (e.1 < k) && decide (e.2.Op = 5) && decide (e.2.Ref = n)).getLast?
def jPs (E : jF0) (e : Int × GPost) (k : Int) : Int := ((jPv E e.1 k).getD e).2.Amount
def qVl (E : jF0) (n k : Int) : Int := ((jPv E n k).map (·.1)).getD n
def qVd (E : jF0) (n k : Int) : jF0 := E.filter fun e => decide (qVl E n k < e.1) && decide (e.1 < k) && decide (e.2.Op = 4) && decide (e.2.Ref = n)
def jSz (E : jF0) (n k role : Int) : Bool := (qVd E n k).any fun e => decide (e.2.Role = role)
def qKn (E : jF0) (o : Str) (n : Int) : Option (Int × GPost) := (E.filter fun e => decide (e.2.Op = 6) && decide (e.2.Order = o) && decide (n < e.1) && jSz E n e.1 0).head?
def jPy (E : jF0) (o : Str) (e : Int × GPost) : Int := match qKn E o e.1 with | some c => jPs E e c.1 | none => 0
def qQf (f : jJh → jJh) : List jJh → Nat → List jJh
 | [], _ => []
 | a :: l, 0 => f a :: l
 | a :: l, n + 1 => a :: qQf f l n
abbrev qQl := List jJh × List (Str × Int)
def jSg (E : jF0) (o : Str) (k : Int) (s : qQl) (e : Int × GPost) : qQl :=
 if e.2.Order = o then
  if e.2.Op = 1 then (s.1 ++ [⟨e.2.Item, jPs E e k, 0, 0, 0, 0, 0⟩], jG8 s.2 e.2.Item s.1.length)
  else if e.2.Op = 2 then
   if jSz E e.1 k 1 then (qQf (fun a => { a with Growth := a.Growth + jPs E e k }) s.1 (jXh 0 s.2 e.2.Item).toNat, s.2) else s
  else if e.2.Op = 3 then
   (qQf (fun a => { a with Charged := a.Charged + jPs E e k, Signed := a.Signed + (if jSz E e.1 k 0 then jPs E e k else 0), Billed := a.Billed + jPy E o e }) s.1 (jXh 0 s.2 e.2.Item).toNat, s.2)
  else s
 else s
def qJf (E : jF0) (o : Str) (k : Int) : List jJh := ((E.foldl (jSg E o k) ([], [])).1).map fun a => { a with Over := max 0 (a.Charged - a.Estimate - a.Growth) }
def qJp (E : jF0) (o : Str) : Int := ((E.filter fun e => decide (e.2.Op = 7) && decide (e.2.Order = o)).map (·.2.Amount)).sum
def jDm (v : Int → Int) (p : GPost) : GPost := { p with Ref := if 0 < p.Ref then v p.Ref else p.Ref }
def ren (v : Int → Int) (e : Int × GPost) : Int × GPost := (v e.1, jDm v e.2)
structure jTr (E : jF0) (v : Int → Int) : Prop where
 pos : ∀ e ∈ E, 0 < e.1
 up : ∀ e ∈ E, 0 < v e.1
 lt : ∀ e ∈ E, ∀ f ∈ E, (v e.1 < v f.1 ↔ e.1 < f.1)
 ref : ∀ e ∈ E, 0 < e.2.Ref → ∃ f ∈ E, f.1 = e.2.Ref
theorem jTr.eq {E : jF0} {v : Int → Int} (m : jTr E v) {e f : Int × GPost} (he : e ∈ E) (hf : f ∈ E) : v e.1 = v f.1 ↔ e.1 = f.1 := by
 constructor
 ·intro h
  have h1 := m.lt e he f hf
  have h2 := m.lt f hf e he
  omega
 ·intro h; rw [h]
theorem jTr.refEq {E : jF0} {v : Int → Int} (m : jTr E v) {e f : Int × GPost} (he : e ∈ E) (hf : f ∈ E) : (jDm v e.2).Ref = v f.1 ↔ e.2.Ref = f.1 := by
 unfold jDm
 dsimp only
 have h1 := m.up f hf
 have h2 := m.pos f hf
 by_cases h : 0 < e.2.Ref
 ·rw [if_pos h]
  obtain ⟨g, hg, e1⟩ := m.ref e he h
  rw [← e1]; exact m.eq hg hf
 ·rw [if_neg h]; omega
def Bd (E : jF0) (v : Int → Int) (k k' : Int) : Prop := ∀ e ∈ E, (v e.1 < k' ↔ e.1 < k)
theorem jTr.bd {E : jF0} {v : Int → Int} (m : jTr E v) {e : Int × GPost} (he : e ∈ E) : Bd E v e.1 (v e.1) := fun f hf => m.lt f hf e he
theorem jFy {E : jF0} {v : Int → Int} {p q : Int × GPost → Bool} (h : ∀ e ∈ E, q (ren v e) = p e) : (E.map (ren v)).filter q = (E.filter p).map (ren v) := by
 rw [List.filter_map]
 congr 1
 exact List.filter_congr fun e he => h e he
theorem qW7 {E : jF0} {n k : Int} {e : Int × GPost} (h : jPv E n k = some e) : e ∈ E := by
 have := List.mem_of_getLast? h
 exact (List.mem_filter.1 this).1
theorem qW9 {E : jF0} {n : Int} {o : Str} {e : Int × GPost} (h : qKn E o n = some e) : e ∈ E := by
 have := List.mem_of_head? h
 exact (List.mem_filter.1 this).1
theorem qJz {E : jF0} {v : Int → Int} {k k' : Int} (m : jTr E v) (b : Bd E v k k') {f : Int × GPost} (hf : f ∈ E) : jPv (E.map (ren v)) (v f.1) k' = (jPv E f.1 k).map (ren v) := by
 unfold jPv
 rw [jFy (p := fun e => decide (f.1 < e.1) && decide (e.1 < k) && decide (e.2.Op = 5) && decide (e.2.Ref = f.1)), List.getLast?_map]
 intro e he
 rw [show (ren v e).1 = v e.1 from rfl, show (ren v e).2 = jDm v e.2 from rfl, show (jDm v e.2).Op = e.2.Op from rfl]
 rw [decide_eq_decide.2 (m.lt f hf e he), decide_eq_decide.2 (b e he), decide_eq_decide.2 (m.refEq he hf)]
theorem qJw {E : jF0} {v : Int → Int} {k k' : Int} (m : jTr E v) (b : Bd E v k k') {f : Int × GPost} (hf : f ∈ E) : jPs (E.map (ren v)) (ren v f) k' = jPs E f k := by
 unfold jPs
 rw [show (ren v f).1 = v f.1 from rfl, qJz m b hf]
 cases jPv E f.1 k <;> rfl
theorem qWr {E : jF0} {v : Int → Int} {k k' : Int} (m : jTr E v) (b : Bd E v k k') {f : Int × GPost} (hf : f ∈ E) : ∃ g ∈ E, qVl E f.1 k = g.1 ∧ qVl (E.map (ren v)) (v f.1) k' = v g.1 := by
 unfold qVl
 rw [qJz m b hf]
 cases h : jPv E f.1 k with
 | none => exact ⟨f, hf, rfl, rfl⟩
 | some g => exact ⟨g, qW7 h, rfl, rfl⟩
theorem qWl {E : jF0} {v : Int → Int} {k k' : Int} (m : jTr E v) (b : Bd E v k k') {f : Int × GPost} (hf : f ∈ E) : qVd (E.map (ren v)) (v f.1) k' = (qVd E f.1 k).map (ren v) := by
 unfold qVd
 obtain ⟨g, hg, e1, e2⟩ := qWr m b hf
 rw [e1, e2]
 refine jFy ?_
 intro e he
 rw [show (ren v e).1 = v e.1 from rfl, show (ren v e).2 = jDm v e.2 from rfl, show (jDm v e.2).Op = e.2.Op from rfl]
 rw [decide_eq_decide.2 (m.lt g hg e he), decide_eq_decide.2 (b e he), decide_eq_decide.2 (m.refEq he hf)]
theorem jRn {E : jF0} {v : Int → Int} {k k' : Int} (m : jTr E v) (b : Bd E v k k') {f : Int × GPost} (hf : f ∈ E) (r : Int) : jSz (E.map (ren v)) (v f.1) k' r = jSz E f.1 k r := by
 unfold jSz
 rw [qWl m b hf, List.any_map]; rfl
theorem qV6 {E : jF0} {v : Int → Int} (m : jTr E v) (o : Str) {f : Int × GPost} (hf : f ∈ E) : qKn (E.map (ren v)) o (v f.1) = (qKn E o f.1).map (ren v) := by
 unfold qKn
 rw [jFy (p := fun e => decide (e.2.Op = 6) && decide (e.2.Order = o) && decide (f.1 < e.1) && jSz E f.1 e.1 0), List.head?_map]
 intro e he
 rw [show (ren v e).1 = v e.1 from rfl, show (ren v e).2 = jDm v e.2 from rfl, show (jDm v e.2).Op = e.2.Op from rfl, show (jDm v e.2).Order = e.2.Order from rfl]
 rw [decide_eq_decide.2 (m.lt f hf e he), jRn m (m.bd he) hf]
theorem qZm {E : jF0} {v : Int → Int} (m : jTr E v) (o : Str) {f : Int × GPost} (hf : f ∈ E) : jPy (E.map (ren v)) o (ren v f) = jPy E o f := by
 unfold jPy
 rw [show (ren v f).1 = v f.1 from rfl, qV6 m o hf]
 cases h : qKn E o f.1 with
 | none => rfl
 | some c => exact qJw m (m.bd (qW9 h)) hf
theorem qV5 {E : jF0} {v : Int → Int} {k k' : Int} (m : jTr E v) (b : Bd E v k k') (o : Str) (s : qQl) {f : Int × GPost} (hf : f ∈ E) : jSg (E.map (ren v)) o k' s (ren v f) = jSg E o k s f := by
 unfold jSg
 rw [qJw m b hf, qZm m o hf]
 rw [show (ren v f).1 = v f.1 from rfl, jRn m b hf, jRn m b hf]
 rfl
theorem jPm {α β : Type} {f g : α → β → α} : ∀ {l : List β} (s : α), (∀ s, ∀ e ∈ l, f s e = g s e) → l.foldl f s = l.foldl g s
 | [], _, _ => rfl
 | e :: l, s, h => by
  rw [List.foldl_cons, List.foldl_cons, h s e List.mem_cons_self]
  exact jPm _ fun s x hx => h s x (List.mem_cons_of_mem _ hx)
theorem qYy {E : jF0} {v : Int → Int} {k k' : Int} (m : jTr E v) (b : Bd E v k k') (o : Str) : qJf (E.map (ren v)) o k' = qJf E o k := by
 unfold qJf
 rw [List.foldl_map, jPm (g := jSg E o k) _ fun s e he => qV5 m b o s he]
theorem qZ0 {E : jF0} {v : Int → Int} (o : Str) : qJp (E.map (ren v)) o = qJp E o := by
 unfold qJp
 rw [jFy (p := fun e => decide (e.2.Op = 7) && decide (e.2.Order = o)) (fun e _ => rfl), List.map_map]
 rfl
end Go.KB
namespace Go.KB
set_option linter.unusedVariables false
def p0 : GPost := ⟨0, 0, [], [], [], [], 0, 0, 0⟩
def pAt (l : List GPost) (n : Int) : GPost := (l[(n - 1).toNat]?).getD p0
def jFk (q : GPost → Bool) : List GPost → Int → Int
 | [], _ => 0
 | p :: l, k => if q p then k else jFk q l (k + 1)
def jFa (o : Str) (p : GPost) : Bool := decide (p.Op = 0) && decide (p.Order = o)
def jMy (o i : Str) (p : GPost) : Bool := decide (p.Op = 1) && decide (p.Order = o) && decide (p.Item = i)
def jUl (l : List GPost) (o : Str) : Int := jFk (jFa o) l 1
def jHs (l : List GPost) (o i : Str) : Int := jFk (jMy o i) l 1
theorem jBe {l r : List GPost} {n : Int} (h : 1 ≤ n) (h1 : n ≤ l.length) : pAt (l ++ r) n = pAt l n := by
 unfold pAt; rw [List.getElem?_append_left (by omega)]
theorem jA9 {l : List GPost} {p : GPost} {r : List GPost} : pAt (l ++ p :: r) (l.length + 1) = p := by
 unfold pAt
 rw [show ((l.length : Int) + 1 - 1).toNat = l.length by omega, List.getElem?_append_right (Nat.le_refl _), Nat.sub_self]
 rfl
theorem jCa {l : List GPost} {n : Int} (h : 1 ≤ n) (h1 : n ≤ l.length) : pAt l n ∈ l := by
 unfold pAt
 rw [List.getElem?_eq_getElem (show (n - 1).toNat < l.length by omega)]
 exact List.getElem_mem _
theorem qU9 {l : List GPost} {p : GPost} (h : p ∈ l) : ∃ n : Int, 1 ≤ n ∧ n ≤ l.length ∧ pAt l n = p := by
 obtain ⟨i, hi, e⟩ := List.getElem_of_mem h
 refine ⟨(i : Int) + 1, by omega, by omega, ?_⟩
 unfold pAt
 rw [show ((i : Int) + 1 - 1).toNat = i by omega, List.getElem?_eq_getElem hi, e]; rfl
theorem jGh (q : GPost → Bool) (p : GPost) (l : List GPost) (k : Int) : jFk q (p :: l) k = if q p then k else jFk q l (k + 1) := rfl
theorem jGv {q : GPost → Bool} : ∀ {l r : List GPost} {k : Int}, 0 < k → jFk q (l ++ r) k = if jFk q l k = 0 then jFk q r (k + l.length) else jFk q l k := by
  intro l
  induction l with
  | nil => intro r k h; simp [jFk]
  | cons p l ih =>
    intro r k h
    rw [List.cons_append, jGh, jGh]
    by_cases hp : q p = true
    · rw [if_pos hp, if_pos hp, if_neg (by omega)]
    · rw [if_neg hp, if_neg hp, ih (by omega)]
      rw [show k + 1 + (l.length : Int) = k + ((p :: l).length : Nat) by rw [List.length_cons]; omega]
theorem jHz {q : GPost → Bool} : ∀ {l : List GPost} {k : Int}, 0 < k → (jFk q l k = 0 ↔ ∀ p ∈ l, q p = false) := by
  intro l
  induction l with
  | nil => intro k h; simp [jFk]
  | cons p l ih =>
    intro k h
    rw [jGh]
    by_cases hp : q p = true
    · rw [if_pos hp]
      constructor
      · intro e; omega
      · intro e; rw [e p List.mem_cons_self] at hp; cases hp
    · rw [if_neg hp, ih (by omega)]
      constructor
      · intro e x hx
        cases hx with
        | head => exact Bool.not_eq_true _ ▸ hp
        | tail _ hx => exact e x hx
      · intro e x hx; exact e x (List.mem_cons_of_mem _ hx)
theorem qUk {q : GPost → Bool} : ∀ {l : List GPost} {k : Int}, 0 < k → jFk q l k ≠ 0 → k ≤ jFk q l k ∧ jFk q l k < k + l.length ∧ q (pAt l (jFk q l k - k + 1)) = true := by
 intro l
 induction l with
 | nil => intro k h h1; exact absurd rfl h1
 | cons p l ih =>
  intro k h h1
  rw [jGh] at h1 ⊢
  by_cases hp : q p = true
  ·rw [if_pos hp] at h1 ⊢
   refine ⟨by omega, by rw [List.length_cons]; omega, ?_⟩
   rw [show k - k + 1 = (1 : Int) by omega]; exact hp
  ·rw [if_neg hp] at h1 ⊢
   obtain ⟨a, b, c⟩ := ih (by omega) h1
   refine ⟨by omega, by rw [List.length_cons]; omega, ?_⟩
   rw [show jFk q l (k + 1) - k + 1 = (jFk q l (k + 1) - (k + 1) + 1) + 1 by omega]
   unfold pAt at *
   rw [show (jFk q l (k + 1) - (k + 1) + 1 + 1 - 1).toNat = (jFk q l (k + 1) - (k + 1) + 1 - 1).toNat + 1 by omega, List.getElem?_cons_succ]
   exact c
theorem qZ7 {q : GPost → Bool} {l : List GPost} (h : jFk q l 1 ≠ 0) : 1 ≤ jFk q l 1 ∧ jFk q l 1 ≤ l.length ∧ q (pAt l (jFk q l 1)) = true := by
 obtain ⟨a, b, c⟩ := qUk (k := 1) (by omega) h
 refine ⟨a, by omega, ?_⟩
 rw [show jFk q l 1 - 1 + 1 = jFk q l 1 by omega] at c
 exact c
def jY2 (l : List GPost) (p : GPost) : Int :=
 if p.Op = 1 ∨ p.Op = 6 ∨ p.Op = 7 then jUl l p.Order
 else if p.Op = 2 ∨ p.Op = 3 then jHs l p.Order p.Item
 else if p.Op = 4 ∨ p.Op = 5 then p.Ref
 else 0
def jFq (l : List GPost) (n : Int) : Bool := l.any fun p => decide (p.Op = 8) && decide (p.Ref = n)
def jRp : Nat → List GPost → Int → Bool
 | 0, _, _ => true
 | k + 1, l, n => if n ≤ 0 then true else !jFq l n && jRp k l (jY2 l (pAt l n))
def jWj (l : List GPost) (n : Int) : Bool := jRp n.toNat l n
def jD0 (l : List GPost) : Prop := ∀ n : Int, 1 ≤ n → n ≤ l.length → 0 ≤ jY2 l (pAt l n) ∧ jY2 l (pAt l n) < n
theorem qJ8 {l : List GPost} (b : jD0 l) : ∀ (k : Nat) (n : Int), n ≤ l.length → n.toNat ≤ k → jRp k l n = jWj l n := by
  intro k
  induction k using Nat.strongRecOn with
  | _ k ih =>
    intro n h1 h2
    unfold jWj
    by_cases h0 : n ≤ 0
    · rw [show n.toNat = 0 by omega]
      cases k with
      | zero => rfl
      | succ k => unfold jRp; rw [if_pos h0]
    · obtain ⟨j, hj⟩ : ∃ j, n.toNat = j + 1 := ⟨n.toNat - 1, by omega⟩
      rw [hj]
      cases k with
      | zero => omega
      | succ k =>
        unfold jRp
        rw [if_neg h0, if_neg h0]
        have := b n (by omega) h1
        by_cases hk : j = k
        · rw [hk]
        · rw [ih k (by omega) _ (by omega) (by omega), ih j (by omega) _ (by omega) (by omega)]
theorem jRj {l : List GPost} {n : Int} (h : n ≤ 0) : jWj l n = true := by
 unfold jWj; rw [show n.toNat = 0 by omega]; rfl
theorem jMs {l : List GPost} (b : jD0 l) {n : Int} (h : 1 ≤ n) (h1 : n ≤ l.length) : jWj l n = (!jFq l n && jWj l (jY2 l (pAt l n))) := by
 have e : jWj l n = jRp (n.toNat - 1 + 1) l n := by unfold jWj; rw [show n.toNat - 1 + 1 = n.toNat by omega]
 rw [e]
 have := b n h h1
 unfold jRp
 rw [if_neg (by omega), qJ8 b _ _ (by omega) (by omega)]
theorem qZd {l : List GPost} (h : ∀ p ∈ l, p.Op ≠ 8) : ∀ (k : Nat) (n : Int), jRp k l n = true := by
 intro k
 induction k with
 | zero => intro n; rfl
 | succ k ih =>
  intro n
  unfold jRp
  rw [ih]
  have : jFq l n = false := by
   unfold jFq
   rw [List.any_eq_false]
   intro p hp
   rw [decide_eq_false (h p hp)]; simp
  rw [this]; split <;> rfl
theorem qXs {l : List GPost} (h : ∀ p ∈ l, p.Op ≠ 8) (n : Int) : jWj l n = true := qZd h _ _
def stB (l : List GPost) (n : Int) : Bool := decide (n ≠ 0) && jWj l n
def qJa (l : List GPost) (n : Int) (f : Int → Bool) : Bool := decide (1 ≤ n) && decide (n ≤ l.length) && f (pAt l n).Op && jWj l n
def qQm (l : List GPost) (p : GPost) : Bool := decide (l = []) || decide ((pAt l l.length).Day ≤ p.Day)
def jNq (l : List GPost) (p : GPost) : Bool :=
 if p.Op = 0 then decide (jUl l p.Order = 0)
 else if p.Op = 1 then stB l (jUl l p.Order) && decide (jHs l p.Order p.Item = 0)
 else if p.Op = 2 ∨ p.Op = 3 then stB l (jHs l p.Order p.Item)
 else if p.Op = 4 then qJa l p.Ref (fun o => decide (o = 2) || decide (o = 3)) && !(decide ((pAt l p.Ref).Op = 3) && decide ((pAt l p.Ref).Who = p.Who))
 else if p.Op = 5 then qJa l p.Ref (fun o => decide (o = 1) || decide (o = 2) || decide (o = 3)) && (decide ((pAt l p.Ref).Op = 2) || decide (0 ≤ p.Amount))
 else if p.Op = 6 ∨ p.Op = 7 then stB l (jUl l p.Order)
 else qJa l p.Ref (fun o => decide (0 ≤ o) && decide (o ≤ 7))
end Go.KB
namespace Go.KB
set_option linter.unusedVariables false
structure Okp (nm : Str → Prop) (p : GPost) : Prop where
 op : 0 ≤ p.Op ∧ p.Op ≤ 8
 day : 0 ≤ p.Day ∧ p.Day ≤ 10000
 ord : if p.Op = 4 ∨ p.Op = 5 ∨ p.Op = 8 then p.Order = [] else nm p.Order
 itm : if p.Op = 1 ∨ p.Op = 2 ∨ p.Op = 3 then nm p.Item else p.Item = []
 shp : if p.Op = 0 then nm p.Ship else p.Ship = []
 who : if p.Op = 3 ∨ p.Op = 4 then nm p.Who else p.Who = []
 amt : if p.Op = 1 ∨ p.Op = 3 then 0 ≤ p.Amount ∧ p.Amount ≤ 1000000000 else if p.Op = 2 ∨ p.Op = 5 then -1000000000 ≤ p.Amount ∧ p.Amount ≤ 1000000000 else if p.Op = 7 then 1 ≤ p.Amount ∧ p.Amount ≤ 1000000000 else p.Amount = 0
 ref : if p.Op = 4 ∨ p.Op = 5 ∨ p.Op = 8 then 1 ≤ p.Ref ∧ p.Ref ≤ 400 else p.Ref = 0
 rol : if p.Op = 4 then 0 ≤ p.Role ∧ p.Role ≤ 1 else p.Role = 0
def Vl (nm : Str → Prop) (m : List GPost) : Prop := ∀ l p r, m = l ++ p :: r → Okp nm p ∧ jNq l p = true ∧ qQm l p = true
theorem Vl.nil {nm : Str → Prop} : Vl nm [] := fun l p r h => by cases l <;> cases h
theorem Vl.left {nm : Str → Prop} {m r : List GPost} (v : Vl nm (m ++ r)) : Vl nm m := fun l p q h => v l p (q ++ r) (by rw [h, List.append_assoc, List.cons_append])
theorem qJ1 {α : Type} {m l r : List α} {p q : α} (h : m ++ [q] = l ++ p :: r) : (r = [] ∧ m = l ∧ q = p) ∨ ∃ r', m = l ++ p :: r' := by
 rcases List.eq_nil_or_concat r with e | ⟨r', x, e⟩
 ·left
  rw [e] at h
  have := List.append_inj' h rfl
  exact ⟨e, this.1, List.head_eq_of_cons_eq this.2⟩
 ·right
  rw [e, show l ++ p :: (r'.concat x) = (l ++ p :: r') ++ [x] by simp] at h
  exact ⟨r', (List.append_inj' h rfl).1⟩
theorem Vl.snoc {nm : Str → Prop} {m : List GPost} {p : GPost} (v : Vl nm m) (o : Okp nm p) (r : jNq m p = true) (d : qQm m p = true) : Vl nm (m ++ [p]) := fun l q s h => by
 rcases qJ1 h with ⟨_, e, e'⟩ | ⟨r', e⟩
 ·rw [← e, ← e']; exact ⟨o, r, d⟩
 ·exact v l q r' e
theorem jMt {m : List GPost} {n : Int} (h : 1 ≤ n) (h1 : n ≤ m.length) : ∃ l r, m = l ++ pAt m n :: r ∧ (l.length : Int) = n - 1 := by
 have hi : (n - 1).toNat < m.length := by omega
 refine ⟨m.take (n - 1).toNat, m.drop ((n - 1).toNat + 1), ?_, by rw [List.length_take]; omega⟩
 unfold pAt
 rw [List.getElem?_eq_getElem hi]
 exact ((List.take_append_drop (n - 1).toNat m).symm.trans (by rw [List.drop_eq_getElem_cons hi]; rfl))
theorem Vl.at {nm : Str → Prop} {m : List GPost} (v : Vl nm m) {n : Int} (h : 1 ≤ n) (h1 : n ≤ m.length) : Okp nm (pAt m n) := by
 obtain ⟨l, r, e, _⟩ := jMt h h1
 exact (v l _ r e).1
theorem jH8 {l : List GPost} {n : Int} : stB l n = true ↔ n ≠ 0 ∧ jWj l n = true := by unfold stB; simp
theorem jK0 {l : List GPost} {n : Int} {f : Int → Bool} : qJa l n f = true ↔ 1 ≤ n ∧ n ≤ l.length ∧ f (pAt l n).Op = true ∧ jWj l n = true := by unfold qJa; simp [and_assoc]
theorem jAc {l r : List GPost} {o : Str} (h : jUl l o ≠ 0) : jUl (l ++ r) o = jUl l o := by
 unfold jUl at *; rw [jGv (by omega), if_neg h]
theorem qW3 {l r : List GPost} {o i : Str} (h : jHs l o i ≠ 0) : jHs (l ++ r) o i = jHs l o i := by
 unfold jHs at *; rw [jGv (by omega), if_neg h]
theorem jF7 {l : List GPost} {p : GPost} (h : p.Op = 1 ∨ p.Op = 6 ∨ p.Op = 7) : jY2 l p = jUl l p.Order := by unfold jY2; rw [if_pos h]
theorem jPu {l : List GPost} {p : GPost} (h : p.Op = 2 ∨ p.Op = 3) : jY2 l p = jHs l p.Order p.Item := by unfold jY2; rw [if_neg (by omega), if_pos h]
theorem jLt {l : List GPost} {p : GPost} (h : p.Op = 4 ∨ p.Op = 5) : jY2 l p = p.Ref := by unfold jY2; rw [if_neg (by omega), if_neg (by omega), if_pos h]
theorem base0 {l : List GPost} {p : GPost} (h : p.Op ≤ 0 ∨ 8 ≤ p.Op) : jY2 l p = 0 := by unfold jY2; rw [if_neg (by omega), if_neg (by omega), if_neg (by omega)]
theorem jAf {l : List GPost} {o : Str} (hz : jUl l o ≠ 0) : 1 ≤ jUl l o ∧ jUl l o ≤ l.length ∧ (pAt l (jUl l o)).Op = 0 ∧ (pAt l (jUl l o)).Order = o := by
 obtain ⟨a, b, c⟩ := qZ7 (q := jFa o) hz
 unfold jFa at c
 rw [Bool.and_eq_true, decide_eq_true_eq, decide_eq_true_eq] at c
 exact ⟨a, b, c⟩
theorem jA6 {l : List GPost} {o i : Str} (hz : jHs l o i ≠ 0) : 1 ≤ jHs l o i ∧ jHs l o i ≤ l.length ∧ (pAt l (jHs l o i)).Op = 1 ∧ (pAt l (jHs l o i)).Order = o ∧ (pAt l (jHs l o i)).Item = i := by
 obtain ⟨a, b, c⟩ := qZ7 (q := jMy o i) hz
 unfold jMy at c
 rw [Bool.and_eq_true, Bool.and_eq_true, decide_eq_true_eq, decide_eq_true_eq, decide_eq_true_eq] at c
 exact ⟨a, b, c.1.1, c.1.2, c.2⟩
theorem qV9 {l : List GPost} {p : GPost} (h : p.Op = 0) : jNq l p = decide (jUl l p.Order = 0) := by unfold jNq; rw [if_pos h]
theorem qVw {l : List GPost} {p : GPost} (h : p.Op = 1) : jNq l p = (stB l (jUl l p.Order) && decide (jHs l p.Order p.Item = 0)) := by unfold jNq; rw [if_neg (by omega), if_pos h]
theorem qQd {l : List GPost} {p : GPost} (h : p.Op = 2 ∨ p.Op = 3) : jNq l p = stB l (jHs l p.Order p.Item) := by unfold jNq; rw [if_neg (by omega), if_neg (by omega), if_pos h]
theorem qVb {l : List GPost} {p : GPost} (h : p.Op = 4) : jNq l p = (qJa l p.Ref (fun o => decide (o = 2) || decide (o = 3)) && !(decide ((pAt l p.Ref).Op = 3) && decide ((pAt l p.Ref).Who = p.Who))) := by
 unfold jNq; rw [if_neg (by omega), if_neg (by omega), if_neg (by omega), if_pos h]
theorem qVy {l : List GPost} {p : GPost} (h : p.Op = 5) : jNq l p = (qJa l p.Ref (fun o => decide (o = 1) || decide (o = 2) || decide (o = 3)) && (decide ((pAt l p.Ref).Op = 2) || decide (0 ≤ p.Amount))) := by
 unfold jNq; rw [if_neg (by omega), if_neg (by omega), if_neg (by omega), if_neg (by omega), if_pos h]
theorem qZp {l : List GPost} {p : GPost} (h : p.Op = 6 ∨ p.Op = 7) : jNq l p = stB l (jUl l p.Order) := by
 unfold jNq; rw [if_neg (by omega), if_neg (by omega), if_neg (by omega), if_neg (by omega), if_neg (by omega), if_pos h]
theorem ref8 {l : List GPost} {p : GPost} (h : p.Op = 8) : jNq l p = qJa l p.Ref (fun o => decide (0 ≤ o) && decide (o ≤ 7)) := by
 unfold jNq; rw [if_neg (by omega), if_neg (by omega), if_neg (by omega), if_neg (by omega), if_neg (by omega), if_neg (by omega)]
theorem jAh {l : List GPost} {p : GPost} {r : List GPost} (hp : 0 ≤ p.Op ∧ p.Op ≤ 8) (h : jNq l p = true) : jY2 (l ++ r) p = jY2 l p ∧ 0 ≤ jY2 l p ∧ jY2 l p ≤ l.length ∧ (jY2 l p ≠ 0 → jWj l (jY2 l p) = true ∧ (pAt l (jY2 l p)).Op ≠ 8) := by
  have hc : p.Op = 0 ∨ p.Op = 1 ∨ (p.Op = 2 ∨ p.Op = 3) ∨ p.Op = 4 ∨ p.Op = 5 ∨ (p.Op = 6 ∨ p.Op = 7) ∨ p.Op = 8 := by omega
  rcases hc with k | k | k | k | k | k | k
  · rw [base0 (.inl (by omega)), base0 (.inl (by omega))]
    exact ⟨rfl, by omega, by omega, fun h => absurd rfl h⟩
  · rw [qVw k, Bool.and_eq_true, jH8] at h
    rw [jF7 (.inl k), jF7 (.inl k), jAc h.1.1]
    obtain ⟨a, b, c, _⟩ := jAf h.1.1
    exact ⟨rfl, by omega, b, fun _ => ⟨h.1.2, by rw [c]; decide⟩⟩
  · rw [qQd k, jH8] at h
    rw [jPu k, jPu k, qW3 h.1]
    obtain ⟨a, b, c, _⟩ := jA6 h.1
    exact ⟨rfl, by omega, b, fun _ => ⟨h.2, by rw [c]; decide⟩⟩
  · rw [qVb k, Bool.and_eq_true, jK0] at h
    rw [jLt (.inl k), jLt (.inl k)]
    obtain ⟨⟨a, b, c, d⟩, _⟩ := h
    refine ⟨rfl, by omega, b, fun _ => ⟨d, ?_⟩⟩
    simp at c; omega
  · rw [qVy k, Bool.and_eq_true, jK0] at h
    rw [jLt (.inr k), jLt (.inr k)]
    obtain ⟨⟨a, b, c, d⟩, _⟩ := h
    refine ⟨rfl, by omega, b, fun _ => ⟨d, ?_⟩⟩
    simp at c; omega
  · rw [qZp k, jH8] at h
    rw [jF7 (.inr k), jF7 (.inr k), jAc h.1]
    obtain ⟨a, b, c, _⟩ := jAf h.1
    exact ⟨rfl, by omega, b, fun _ => ⟨h.2, by rw [c]; decide⟩⟩
  · rw [base0 (.inr (by omega)), base0 (.inr (by omega))]
    exact ⟨rfl, by omega, by omega, fun h => absurd rfl h⟩
theorem Vl.step {nm : Str → Prop} {m : List GPost} (v : Vl nm m) {n : Int} (h : 1 ≤ n) (h1 : n ≤ m.length) : 0 ≤ jY2 m (pAt m n) ∧ jY2 m (pAt m n) < n ∧ (jY2 m (pAt m n) ≠ 0 → (pAt m (jY2 m (pAt m n))).Op ≠ 8) := by
 obtain ⟨l, r, e, hl⟩ := jMt h h1
 obtain ⟨b1, b2, b3, b4⟩ := jAh (r := pAt m n :: r) (v l _ r e).1.op (v l _ r e).2.1
 rw [← e] at b1
 rw [b1]
 refine ⟨b2, by omega, fun hz => ?_⟩
 have := (b4 hz).2
 have e2 : pAt m (jY2 l (pAt m n)) = pAt l (jY2 l (pAt m n)) := by
  have := jBe (l := l) (r := pAt m n :: r) (n := jY2 l (pAt m n)) (by omega) b3
  rw [← e] at this; exact this
 rw [e2]; exact this
theorem Vl.base {nm : Str → Prop} {m : List GPost} (v : Vl nm m) : jD0 m := fun n h h1 => ⟨(v.step h h1).1, (v.step h h1).2.1⟩
def jVe (m : List GPost) (n : Int) : Bool := jWj m n && !decide ((pAt m n).Op = 8)
theorem jLn {nm : Str → Prop} {m : List GPost} (v : Vl nm m) {n : Int} (h : 1 ≤ n) (h1 : n ≤ m.length) (hk : jVe m n = true) (hz : jY2 m (pAt m n) ≠ 0) : jVe m (jY2 m (pAt m n)) = true := by
 unfold jVe at *
 rw [Bool.and_eq_true] at hk
 have hl := hk.1
 rw [jMs v.base h h1, Bool.and_eq_true] at hl
 rw [hl.2, decide_eq_false ((v.step h h1).2.2 hz)]; rfl
def jVu (m : List GPost) (j : Nat) : jF0 := ((List.range j).filter fun (i : Nat) => jVe m (i + 1)).map fun (i : Nat) => ((i : Int) + 1, pAt m (i + 1))
def jQ1 (m : List GPost) : jF0 := jVu m m.length
def nuN (m : List GPost) (n : Int) : Int := (jVu m n.toNat).length
theorem jUj (m : List GPost) (j : Nat) : jVu m (j + 1) = jVu m j ++ (if jVe m (j + 1) = true then [((j : Int) + 1, pAt m (j + 1))] else []) := by
 unfold jVu
 rw [List.range_succ, List.filter_append, List.map_append]
 congr 1
 by_cases h : jVe m (j + 1) = true
 ·simp [h]
 ·simp [h]
theorem jWn {m : List GPost} {j : Nat} {e : Int × GPost} : e ∈ jVu m j ↔ 1 ≤ e.1 ∧ e.1 ≤ j ∧ jVe m e.1 = true ∧ e.2 = pAt m e.1 := by
 unfold jVu
 rw [List.mem_map]
 constructor
 ·rintro ⟨i, hi, rfl⟩
  rw [List.mem_filter, List.mem_range] at hi
  exact ⟨by dsimp only; omega, by dsimp only; omega, hi.2, rfl⟩
 ·rintro ⟨a, b, c, d⟩
  refine ⟨(e.1 - 1).toNat, ?_, ?_⟩
  ·rw [List.mem_filter, List.mem_range]
   refine ⟨by omega, ?_⟩
   rw [show (((e.1 - 1).toNat : Nat) : Int) + 1 = e.1 by omega]; exact c
  ·rw [show (((e.1 - 1).toNat : Nat) : Int) + 1 = e.1 by omega, ← d]
theorem qZ9 (m : List GPost) (j : Nat) : nuN m (j + 1 : Nat) = nuN m j + (if jVe m (j + 1) = true then 1 else 0) := by
 unfold nuN
 rw [show ((j + 1 : Nat) : Int).toNat = j + 1 by omega, show ((j : Nat) : Int).toNat = j by omega, jUj, List.length_append]
 split
 ·rw [List.length_singleton]; omega
 ·rw [List.length_nil]; omega
theorem qK8 (m : List GPost) : ∀ (d j : Nat), nuN m j ≤ nuN m (j + d : Nat) := by
 intro d
 induction d with
 | zero => intro j; exact Int.le_refl _
 | succ d ih =>
  intro j
  have := ih j
  have h2 := qZ9 m (j + d)
  rw [show j + (d + 1) = j + d + 1 by omega, h2]
  split <;> omega
theorem qQq (m : List GPost) {a b : Int} (ha : 0 ≤ a) (h : a ≤ b) : nuN m a ≤ nuN m b := by
 have := qK8 m (b - a).toNat a.toNat
 rw [show ((a.toNat : Nat) : Int) = a by omega, show ((a.toNat + (b - a).toNat : Nat) : Int) = b by omega] at this
 exact this
theorem jD4 {m : List GPost} {n : Int} (h : 1 ≤ n) (hk : jVe m n = true) : nuN m n = nuN m (n - 1) + 1 := by
 have := qZ9 m (n - 1).toNat
 rw [show (((n - 1).toNat + 1 : Nat) : Int) = n by omega, show (((n - 1).toNat : Nat) : Int) = n - 1 by omega, show n - 1 + 1 = n by omega, if_pos hk] at this
 exact this
theorem qV3 (m : List GPost) (n : Int) : 0 ≤ nuN m n := by unfold nuN; omega
theorem nu_lt {m : List GPost} {a b : Int} (ha : 1 ≤ a) (hb : 1 ≤ b) (ka : jVe m a = true) (kb : jVe m b = true) : nuN m a < nuN m b ↔ a < b := by
 constructor
 ·intro h
  apply Classical.byContradiction
  intro hc
  have := qQq m (a := b) (b := a) (by omega) (by omega)
  omega
 ·intro h
  have h1 := jD4 hb kb
  have h2 := qQq m (a := a) (b := b - 1) (by omega) (by omega)
  omega
def jV6 (m : List GPost) (j : Nat) : List GPost := (jVu m j).map fun e => jDm (nuN m) e.2
def jGg (m : List GPost) : List GPost := jV6 m m.length
theorem jDz (m : List GPost) (j : Nat) : ((jV6 m j).length : Int) = nuN m j := by
 unfold jV6 nuN; rw [List.length_map]; rfl
theorem jD8 (m : List GPost) (j : Nat) : jV6 m (j + 1) = jV6 m j ++ (if jVe m (j + 1) = true then [jDm (nuN m) (pAt m (j + 1))] else []) := by
 unfold jV6
 rw [jUj, List.map_append]
 congr 1
 split <;> rfl
theorem jFu {m : List GPost} {j : Nat} {q : GPost} : q ∈ jV6 m j ↔ ∃ n : Int, 1 ≤ n ∧ n ≤ j ∧ jVe m n = true ∧ q = jDm (nuN m) (pAt m n) := by
 unfold jV6
 rw [List.mem_map]
 constructor
 ·rintro ⟨e, he, rfl⟩
  obtain ⟨a, b, c, d⟩ := jWn.1 he
  exact ⟨e.1, a, b, c, by rw [d]⟩
 ·rintro ⟨n, a, b, c, rfl⟩
  exact ⟨(n, pAt m n), jWn.2 ⟨a, b, c, rfl⟩, rfl⟩
theorem qUd {m : List GPost} : ∀ {j : Nat} {n : Int}, 1 ≤ n → n ≤ j → jVe m n = true → pAt (jV6 m j) (nuN m n) = jDm (nuN m) (pAt m n) := by
 intro j
 induction j with
 | zero => intro n h h1; omega
 | succ j ih =>
  intro n h h1 hk
  rw [jD8]
  by_cases hn : n = j + 1
  ·subst hn
   rw [if_pos hk]
   have := jD4 h hk
   rw [show (j : Int) + 1 - 1 = (j : Nat) by omega, ← jDz] at this
   rw [this]
   exact jA9
  ·have h2 := jD4 h hk
   have h3 := qV3 m (n - 1)
   have h4 := qQq m (a := n) (b := j) (by omega) (by omega)
   rw [jBe (by omega) (by rw [jDz]; omega)]
   exact ih h (by omega) hk
theorem qVz {m : List GPost} {j : Nat} : ∀ p ∈ jV6 m j, p.Op ≠ 8 := by
 intro p hp
 obtain ⟨n, _, _, hk, rfl⟩ := jFu.1 hp
 unfold jVe at hk
 rw [Bool.and_eq_true] at hk
 have := hk.2
 simp at this
 exact this
theorem Vl.days {nm : Str → Prop} {m : List GPost} (v : Vl nm m) : ∀ (b a : Int), 1 ≤ a → a ≤ b → b ≤ m.length → (pAt m a).Day ≤ (pAt m b).Day := by
 have key : ∀ (d : Nat) (a : Int), 1 ≤ a → a + d ≤ m.length → (pAt m a).Day ≤ (pAt m (a + d)).Day := by
  intro d
  induction d with
  | zero => intro a h1 h2; rw [show a + ((0 : Nat) : Int) = a by omega]; exact Int.le_refl _
  | succ d ih =>
   intro a h1 h2
   have h3 := ih a h1 (by omega)
   obtain ⟨l, r, e, hl⟩ := jMt (m := m) (n := a + (d + 1 : Nat)) (by omega) (by omega)
   have h4 := (v l _ r e).2.2
   unfold qQm at h4
   rw [Bool.or_eq_true, decide_eq_true_eq, decide_eq_true_eq] at h4
   rcases h4 with h4 | h4
   ·rw [h4, List.length_nil] at hl; omega
   ·rw [hl] at h4
    have : pAt m (a + d) = pAt l (a + (d + 1 : Nat) - 1) := by
     rw [e, jBe (by omega) (by omega), show a + ((d + 1 : Nat) : Int) - 1 = a + d by omega]
    rw [this] at h3
    exact Int.le_trans h3 h4
 intro b a h1 h2 h3
 have := key (b - a).toNat a h1 (by omega)
 rw [show a + (((b - a).toNat : Nat) : Int) = b by omega] at this
 exact this
end Go.KB
namespace Go.KB
set_option linter.unusedVariables false
section
variable {nm : Str → Prop} {m : List GPost}
theorem jCn {n : Int} (h : jVe m n = true) : (pAt m n).Op ≠ 8 := by
 unfold jVe at h
 rw [Bool.and_eq_true] at h
 simpa using h.2
theorem jD7 {n : Int} (h : jVe m n = true) : jWj m n = true := by
 unfold jVe at h
 rw [Bool.and_eq_true] at h
 exact h.1
theorem Vl.split (v : Vl nm m) {n : Int} (h : 1 ≤ n) (h1 : n ≤ m.length) : ∃ l r, m = l ++ pAt m n :: r ∧ (l.length : Int) = n - 1 ∧ Okp nm (pAt m n) ∧ jNq l (pAt m n) = true ∧ (∀ k : Int, 1 ≤ k → k < n → pAt l k = pAt m k) ∧ jY2 m (pAt m n) = jY2 l (pAt m n) := by
  obtain ⟨l, r, e, hl⟩ := jMt h h1
  obtain ⟨a, b, c⟩ := v l _ r e
  refine ⟨l, r, e, hl, a, b, fun k hk hk1 => ?_, ?_⟩
  · have := jBe (l := l) (r := pAt m n :: r) hk (by omega)
    rw [← e] at this; exact this.symm
  · have := (jAh (r := pAt m n :: r) a.op b).1
    rw [← e] at this; exact this
theorem qK5 {v : Int → Int} {p : GPost} : (jDm v p).Op = p.Op := rfl
theorem jN4 {v : Int → Int} {p : GPost} {x : Str} : jFa x (jDm v p) = jFa x p := rfl
theorem jTh {v : Int → Int} {p : GPost} {x y : Str} : jMy x y (jDm v p) = jMy x y p := rfl
theorem jFx {j : Nat} (n : Int) : jWj (jV6 m j) n = true := qXs qVz n
theorem qKa {p : GPost} (o : Okp nm p) {v : Int → Int} (h : 0 < p.Ref → 1 ≤ v p.Ref ∧ v p.Ref ≤ 400) : Okp nm (jDm v p) where
 op := o.op
 day := o.day
 ord := o.ord
 itm := o.itm
 shp := o.shp
 who := o.who
 amt := o.amt
 ref := by
  have := o.ref
  unfold jDm
  dsimp only
  split
  ·rename_i hk
   rw [if_pos hk] at this
   rw [if_pos (by omega)]
   exact h (by omega)
  ·rename_i hk
   rw [if_neg hk] at this
   rw [if_neg (by omega)]; exact this
 rol := o.rol
theorem qUs (v : Vl nm m) (hm : m.length ≤ 400) : ∀ j, j ≤ m.length → Vl nm (jV6 m j) := by
 intro j
 induction j with
 | zero => intro _; exact Vl.nil
 | succ j ih =>
  intro hj
  have vj := ih (by omega)
  rw [jD8]
  by_cases hk : jVe m (j + 1) = true
  ·rw [if_pos hk]
   obtain ⟨l, r, e, hl, hok, href, hat, hbase⟩ := v.split (n := (j : Int) + 1) (by omega) (by omega)
   have hlj : (l.length : Int) = j := by omega
   have hlive := jD7 hk
   rw [jMs v.base (by omega) (by omega), Bool.and_eq_true] at hlive
   have kb : ∀ b : Int, jY2 m (pAt m (j + 1)) = b → b ≠ 0 → jVe m b = true := fun b hb hz => by
    have := jLn v (n := (j : Int) + 1) (by omega) (by omega) hk (by rw [hb]; exact hz)
    rw [hb] at this; exact this
   -- an entry that is kept lies in what is left
   have inR : ∀ b : Int, 1 ≤ b → b ≤ j → jVe m b = true → jDm (nuN m) (pAt m b) ∈ jV6 m j := fun b h1 h2 h3 => jFu.2 ⟨b, h1, h2, h3, rfl⟩
   have memL : ∀ b : Int, 1 ≤ b → b ≤ j → pAt m b ∈ l := fun b h1 h2 => by
    rw [← hat b h1 (by omega)]; exact jCa h1 (by omega)
   have hord : ∀ x, jUl l x = 0 → jUl (jV6 m j) x = 0 := fun x hx => by
    unfold jUl at *
    rw [jHz (by omega)] at *
    intro q hq
    obtain ⟨b, h1, h2, _, rfl⟩ := jFu.1 hq
    rw [jN4]; exact hx _ (memL b h1 h2)
   have hitm : ∀ x y, jHs l x y = 0 → jHs (jV6 m j) x y = 0 := fun x y hx => by
    unfold jHs at *
    rw [jHz (by omega)] at *
    intro q hq
    obtain ⟨b, h1, h2, _, rfl⟩ := jFu.1 hq
    rw [jTh]; exact hx _ (memL b h1 h2)
   have hord1 : ∀ x, jUl l x ≠ 0 → jVe m (jUl l x) = true → stB (jV6 m j) (jUl (jV6 m j) x) = true := fun x hx hkx => by
    rw [jH8]
    refine ⟨fun hz => ?_, jFx _⟩
    obtain ⟨a1, a2, a3, a4⟩ := jAf hx
    unfold jUl at hz
    rw [jHz (by omega)] at hz
    have := hz _ (inR _ a1 (by omega) hkx)
    rw [jN4, ← hat _ a1 (by omega)] at this
    unfold jFa at this
    rw [a3, a4] at this; simp at this
   have hitm1 : ∀ x y, jHs l x y ≠ 0 → jVe m (jHs l x y) = true → stB (jV6 m j) (jHs (jV6 m j) x y) = true := fun x y hx hkx => by
    rw [jH8]
    refine ⟨fun hz => ?_, jFx _⟩
    obtain ⟨a1, a2, a3, a4, a5⟩ := jA6 hx
    unfold jHs at hz
    rw [jHz (by omega)] at hz
    have := hz _ (inR _ a1 (by omega) hkx)
    rw [jTh, ← hat _ a1 (by omega)] at this
    unfold jMy at this
    rw [a3, a4, a5] at this; simp at this
   -- the entry to which one refers
   have haim : ∀ f, jVe m (pAt m (j + 1)).Ref = true → qJa l (pAt m (j + 1)).Ref f = true → qJa (jV6 m j) (jDm (nuN m) (pAt m (j + 1))).Ref f = true ∧ pAt (jV6 m j) (jDm (nuN m) (pAt m (j + 1))).Ref = jDm (nuN m) (pAt l (pAt m (j + 1)).Ref) := fun f hkr ha => by
    obtain ⟨a1, a2, a3, a4⟩ := jK0.1 ha
    have e1 : (jDm (nuN m) (pAt m (j + 1))).Ref = nuN m (pAt m (j + 1)).Ref := by unfold jDm; dsimp only; rw [if_pos (by omega)]
    have e2 : pAt (jV6 m j) (nuN m (pAt m (j + 1)).Ref) = jDm (nuN m) (pAt m (pAt m (j + 1)).Ref) := qUd a1 (by omega) hkr
    have n1 := jD4 a1 hkr
    have n2 := qV3 m ((pAt m (j + 1)).Ref - 1)
    have n3 := qQq m (a := (pAt m (j + 1)).Ref) (b := (j : Int)) (by omega) (by omega)
    rw [e1, e2, hat _ a1 (by omega)]
    refine ⟨jK0.2 ⟨by omega, by rw [jDz]; exact n3, ?_, jFx _⟩, rfl⟩
    rw [e2, qK5, ← hat _ a1 (by omega)]; exact a3
   have hday : qQm (jV6 m j) (jDm (nuN m) (pAt m (j + 1))) = true := by
    unfold qQm
    by_cases hz : jV6 m j = []
    ·rw [decide_eq_true hz]; rfl
    ·rw [Bool.or_eq_true]; right
     have hp : 0 < (jV6 m j).length := List.length_pos_iff.2 hz
     have hmem := jCa (l := jV6 m j) (n := ((jV6 m j).length : Int)) (by omega) (Int.le_refl _)
     obtain ⟨b, h1, h2, _, hb⟩ := jFu.1 hmem
     rw [hb, decide_eq_true_eq]
     exact v.days _ b h1 (by omega) (by omega)
   refine vj.snoc (qKa hok ?_) ?_ hday
   ·intro hr
    have hop : (pAt m (j + 1)).Op = 4 ∨ (pAt m (j + 1)).Op = 5 := by
     have := hok.ref
     have h8 := jCn hk
     split at this <;> omega
    have hb : jY2 m (pAt m (j + 1)) = (pAt m (j + 1)).Ref := jLt hop
    have hkr := kb _ hb (by omega)
    have hlt := (v.step (n := (j : Int) + 1) (by omega) (by omega)).2.1
    rw [hb] at hlt
    have n1 := jD4 (m := m) (n := (pAt m (j + 1)).Ref) (by omega) hkr
    have n2 := qV3 m ((pAt m (j + 1)).Ref - 1)
    have n3 := qQq m (a := (pAt m (j + 1)).Ref) (b := (j : Int)) (by omega) (by omega)
    have n4 : nuN m j ≤ j := by
     unfold nuN jVu
     rw [List.length_map, show ((j : Int)).toNat = j by omega]
     have := List.length_filter_le (fun (i : Nat) => jVe m (i + 1)) (List.range j)
     rw [List.length_range] at this; omega
    omega
   ·have h8 := jCn hk
    have hc : (pAt m (j + 1)).Op = 0 ∨ (pAt m (j + 1)).Op = 1 ∨ ((pAt m (j + 1)).Op = 2 ∨ (pAt m (j + 1)).Op = 3) ∨ (pAt m (j + 1)).Op = 4 ∨ (pAt m (j + 1)).Op = 5 ∨ ((pAt m (j + 1)).Op = 6 ∨ (pAt m (j + 1)).Op = 7) := by have := hok.op; omega
    rcases hc with k | k | k | k | k | k
    ·rw [qV9 k] at href
     rw [qV9 (p := jDm (nuN m) (pAt m (j + 1))) k]
     exact decide_eq_true (hord _ (of_decide_eq_true href))
    ·rw [qVw k, Bool.and_eq_true] at href
     rw [qVw (p := jDm (nuN m) (pAt m (j + 1))) k, Bool.and_eq_true]
     have hz := (jH8.1 href.1).1
     exact ⟨hord1 _ hz (kb _ (by rw [hbase, jF7 (.inl k)]; rfl) hz), decide_eq_true (hitm _ _ (of_decide_eq_true href.2))⟩
    ·rw [qQd k] at href
     rw [qQd (p := jDm (nuN m) (pAt m (j + 1))) k]
     have hz := (jH8.1 href).1
     exact hitm1 _ _ hz (kb _ (by rw [hbase, jPu k]; rfl) hz)
    ·rw [qVb k, Bool.and_eq_true] at href
     rw [qVb (p := jDm (nuN m) (pAt m (j + 1))) k, Bool.and_eq_true]
     have hr := (jK0.1 href.1).1
     obtain ⟨a1, a2⟩ := haim _ (kb _ (by rw [hbase, jLt (.inl k)]) (by omega)) href.1
     refine ⟨a1, ?_⟩
     rw [a2]; exact href.2
    ·rw [qVy k, Bool.and_eq_true] at href
     rw [qVy (p := jDm (nuN m) (pAt m (j + 1))) k, Bool.and_eq_true]
     have hr := (jK0.1 href.1).1
     obtain ⟨a1, a2⟩ := haim _ (kb _ (by rw [hbase, jLt (.inr k)]) (by omega)) href.1
     refine ⟨a1, ?_⟩
     rw [a2]; exact href.2
    ·rw [qZp k] at href
     rw [qZp (p := jDm (nuN m) (pAt m (j + 1))) k]
     have hz := (jH8.1 href).1
     exact hord1 _ hz (kb _ (by rw [hbase, jF7 (.inr k)]; rfl) hz)
  ·rw [if_neg hk, List.append_nil]; exact vj
theorem qZz {j : Nat} {n : Int} (h : 1 ≤ n) (h1 : n ≤ (jV6 m j).length) : jVe (jV6 m j) n = true := by
 unfold jVe
 rw [jFx, decide_eq_false (qVz _ (jCa h h1))]; rfl
theorem qWe {l : List GPost} (h : ∀ n : Int, 1 ≤ n → n ≤ l.length → jVe l n = true) : jQ1 l = (List.range l.length).map fun (i : Nat) => ((i : Int) + 1, pAt l (i + 1)) := by
 unfold jQ1 jVu
 rw [List.filter_eq_self.2 (fun i hi => h _ (by omega) (by rw [List.mem_range] at hi; omega))]
theorem qJs {α : Type} {q : Nat → α} {n : Nat} : (List.range (n + 1)).map q = (List.range n).map q ++ [q n] := by
 rw [List.range_succ, List.map_append]; rfl
theorem qZ3 : ∀ j : Nat, (jVu m j).map (ren (nuN m)) = (List.range (jV6 m j).length).map fun (i : Nat) => ((i : Int) + 1, pAt (jV6 m j) (i + 1)) := by
  intro j
  induction j with
  | zero => rfl
  | succ j ih =>
    rw [jUj, jD8, List.map_append, ih]
    by_cases hk : jVe m (j + 1) = true
    · rw [if_pos hk, if_pos hk, List.length_append, List.length_singleton, qJs]
      congr 1
      · refine List.map_congr_left fun i hi => ?_
        rw [List.mem_range] at hi
        rw [jBe (by omega) (by omega)]
      · rw [jA9]
        have := jD4 (m := m) (n := (j : Int) + 1) (by omega) hk
        rw [show (j : Int) + 1 - 1 = (j : Nat) by omega, ← jDz] at this
        show [ren (nuN m) ((j : Int) + 1, pAt m (j + 1))] = _
        unfold ren
        dsimp only
        rw [this]
    · rw [if_neg hk, if_neg hk, List.append_nil, List.map_nil, List.append_nil]
theorem qWg : jQ1 (jGg m) = (jQ1 m).map (ren (nuN m)) := by
 rw [qWe (l := jGg m) (fun n h h1 => qZz h h1)]
 exact (qZ3 m.length).symm
theorem qVj (v : Vl nm m) : jTr (jQ1 m) (nuN m) where
 pos := fun e he => by have := jWn.1 he; omega
 up := fun e he => by
  obtain ⟨a, b, c, d⟩ := jWn.1 he
  have := jD4 a c
  have := qV3 m (e.1 - 1)
  omega
 lt := fun e he f hf => by
  obtain ⟨a, b, c, d⟩ := jWn.1 he
  obtain ⟨a', b', c', d'⟩ := jWn.1 hf
  exact nu_lt a a' c c'
 ref := fun e he hr => by
  obtain ⟨a, b, c, d⟩ := jWn.1 he
  have hok := v.at a b
  rw [d] at hr ⊢
  have hop : (pAt m e.1).Op = 4 ∨ (pAt m e.1).Op = 5 := by
   have := hok.ref
   have h8 := jCn c
   split at this <;> omega
  have hb : jY2 m (pAt m e.1) = (pAt m e.1).Ref := jLt hop
  have hk := jLn v a b c (by rw [hb]; omega)
  have hlt := (v.step a b).2.1
  rw [hb] at hk hlt
  exact ⟨((pAt m e.1).Ref, pAt m (pAt m e.1).Ref), jWn.2 ⟨by dsimp only; omega, by dsimp only; omega, hk, rfl⟩, rfl⟩
theorem bd_end : Bd (jQ1 m) (nuN m) ((m.length : Int) + 1) (((jGg m).length : Int) + 1) := fun e he => by
 obtain ⟨a, b, c, d⟩ := jWn.1 he
 have h := qQq m (a := e.1) (b := (m.length : Int)) (by omega) b
 rw [← jDz] at h
 unfold jGg
 constructor <;> intro _ <;> omega
end
end Go.KB
