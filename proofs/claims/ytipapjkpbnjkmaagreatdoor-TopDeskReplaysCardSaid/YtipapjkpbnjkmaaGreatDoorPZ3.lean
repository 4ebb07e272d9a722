/- The entries that count: what accounts and balances depend on; a renumbering changes nothing. Lists of entries: which entry an order, an item has; what is live; when a post is accepted. Lists of entries that are accepted one after another, and what is left of them: the live entries, with new numbers. What is left is accepted, one after another; its entries that count are those of the whole, renumbered. No condition. -/
import Derived.Test.YtipapjkpbnjkmaaGreatDoorGPure
namespace Go.KB
set_option linter.unusedVariables false
abbrev jS6 := List (Int × jJu)
def jCe (E : jS6) (n k : Int) : Option (Int × jJu) := (E.filter fun e => decide (n < e.1) && decide (e.1 < k) && decide (e.2.Op = 5) && decide (e.2.Ref = n)).getLast?
def jS0 (E : jS6) (e : Int × jJu) (k : Int) : Int := ((jCe E e.1 k).getD e).2.Amount
def qY2 (E : jS6) (n k : Int) : Int := ((jCe E n k).map (·.1)).getD n
def qX5 (E : jS6) (n k : Int) : jS6 := E.filter fun e => decide (qY2 E n k < e.1) && decide (e.1 < k) && decide (e.2.Op = 4) && decide (e.2.Ref = n)
def qJr (E : jS6) (n k role : Int) : Bool := (qX5 E n k).any fun e => decide (e.2.Role = role)
def covO (E : jS6) (o : Str) (n : Int) : Option (Int × jJu) := (E.filter fun e => decide (e.2.Op = 6) && decide (e.2.Order = o) && decide (n < e.1) && qJr E n e.1 0).head?
def jC7 (E : jS6) (o : Str) (e : Int × jJu) : Int := match covO E o e.1 with | some c => jS0 E e c.1 | none => 0
def qQ0 (f : jJn → jJn) : List jJn → Nat → List jJn
 | [], _ => []
 | a :: l, 0 => f a :: l
 | a :: l, n + 1 => a :: qQ0 f l n
abbrev qQ2 := List jJn × List (Str × Int)
def jCt (E : jS6) (o : Str) (k : Int) (s : qQ2) (e : Int × jJu) : qQ2 :=
 if e.2.Order = o then
  if e.2.Op = 1 then (s.1 ++ [⟨e.2.Item, jS0 E e k, 0, 0, 0, 0, 0⟩], jHg s.2 e.2.Item s.1.length)
  else if e.2.Op = 2 then
   if qJr E e.1 k 1 then (qQ0 (fun a => { a with Growth := a.Growth + jS0 E e k }) s.1 (jXm 0 s.2 e.2.Item).toNat, s.2) else s
  else if e.2.Op = 3 then
   (qQ0 (fun a => { a with Charged := a.Charged + jS0 E e k, Signed := a.Signed + (if qJr E e.1 k 0 then jS0 E e k else 0), Billed := a.Billed + jC7 E o e }) s.1 (jXm 0 s.2 e.2.Item).toNat, s.2)
  else s
 else s
def jL0 (E : jS6) (o : Str) (k : Int) : List jJn := ((E.foldl (jCt E o k) ([], [])).1).map fun a => { a with Over := max 0 (a.Charged - a.Estimate - a.Growth) }
def jFf (E : jS6) (o : Str) : Int := ((E.filter fun e => decide (e.2.Op = 7) && decide (e.2.Order = o)).map (·.2.Amount)).sum
def renP (v : Int → Int) (p : jJu) : jJu := { p with Ref := if 0 < p.Ref then v p.Ref else p.Ref }
structure Mono (E : jS6) (v : Int → Int) : Prop where
 pos : ∀ e ∈ E, 0 < e.1
 up : ∀ e ∈ E, 0 < v e.1
 lt : ∀ e ∈ E, ∀ f ∈ E, (v e.1 < v f.1 ↔ e.1 < f.1)
 ref : ∀ e ∈ E, 0 < e.2.Ref → ∃ f ∈ E, f.1 = e.2.Ref
def Bd (E : jS6) (v : Int → Int) (k k' : Int) : Prop := ∀ e ∈ E, (v e.1 < k' ↔ e.1 < k)
theorem Mono.bd {E : jS6} {v : Int → Int} (m : Mono E v) {e : Int × jJu} (he : e ∈ E) : Bd E v e.1 (v e.1) := fun f hf => m.lt f hf e he
end Go.KB
namespace Go.KB
set_option linter.unusedVariables false
def p0 : jJu := ⟨0, 0, [], [], [], [], 0, 0, 0⟩
def pAt (l : List jJu) (n : Int) : jJu := (l[(n - 1).toNat]?).getD p0
def jM1 (q : jJu → Bool) : List jJu → Int → Int
 | [], _ => 0
 | p :: l, k => if q p then k else jM1 q l (k + 1)
def jTx (o : Str) (p : jJu) : Bool := decide (p.Op = 0) && decide (p.Order = o)
def jSg (o i : Str) (p : jJu) : Bool := decide (p.Op = 1) && decide (p.Order = o) && decide (p.Item = i)
def jG6 (l : List jJu) (o : Str) : Int := jM1 (jTx o) l 1
def jFk (l : List jJu) (o i : Str) : Int := jM1 (jSg o i) l 1
theorem jPt {l r : List jJu} {n : Int} (h : 1 ≤ n) (h1 : n ≤ l.length) : pAt (l ++ r) n = pAt l n := by
 unfold pAt; rw [List.getElem?_append_left (by omega)]
theorem qKs {l : List jJu} {p : jJu} (h : p ∈ l) : ∃ n : Int, 1 ≤ n ∧ n ≤ l.length ∧ pAt l n = p := by
 obtain ⟨i, hi, e⟩ := List.getElem_of_mem h
 refine ⟨(i : Int) + 1, by omega, by omega, ?_⟩
 unfold pAt
 rw [show ((i : Int) + 1 - 1).toNat = i by omega, List.getElem?_eq_getElem hi, e]; rfl
theorem jD5 (q : jJu → Bool) (p : jJu) (l : List jJu) (k : Int) : jM1 q (p :: l) k = if q p then k else jM1 q l (k + 1) := rfl
theorem jB4 {q : jJu → Bool} : ∀ {l r : List jJu} {k : Int}, 0 < k → jM1 q (l ++ r) k = if jM1 q l k = 0 then jM1 q r (k + l.length) else jM1 q l k := by
  intro l
  induction l with
  | nil => intro r k h; simp [jM1]
  | cons p l ih =>
    intro r k h
    rw [List.cons_append, jD5, jD5]
    by_cases hp : q p = true
    · rw [if_pos hp, if_pos hp, if_neg (by omega)]
    · rw [if_neg hp, if_neg hp, ih (by omega)]
      rw [show k + 1 + (l.length : Int) = k + ((p :: l).length : Nat) by rw [List.length_cons]; omega]
theorem qU8 {q : jJu → Bool} : ∀ {l : List jJu} {k : Int}, 0 < k → jM1 q l k ≠ 0 → k ≤ jM1 q l k ∧ jM1 q l k < k + l.length ∧ q (pAt l (jM1 q l k - k + 1)) = true := by
 intro l
 induction l with
 | nil => intro k h h1; exact absurd rfl h1
 | cons p l ih =>
  intro k h h1
  rw [jD5] at h1 ⊢
  by_cases hp : q p = true
  ·rw [if_pos hp] at h1 ⊢
   refine ⟨by omega, by rw [List.length_cons]; omega, ?_⟩
   rw [show k - k + 1 = (1 : Int) by omega]; exact hp
  ·rw [if_neg hp] at h1 ⊢
   obtain ⟨a, b, c⟩ := ih (by omega) h1
   refine ⟨by omega, by rw [List.length_cons]; omega, ?_⟩
   rw [show jM1 q l (k + 1) - k + 1 = (jM1 q l (k + 1) - (k + 1) + 1) + 1 by omega]
   unfold pAt at *
   rw [show (jM1 q l (k + 1) - (k + 1) + 1 + 1 - 1).toNat = (jM1 q l (k + 1) - (k + 1) + 1 - 1).toNat + 1 by omega, List.getElem?_cons_succ]
   exact c
theorem qXv {q : jJu → Bool} {l : List jJu} (h : jM1 q l 1 ≠ 0) : 1 ≤ jM1 q l 1 ∧ jM1 q l 1 ≤ l.length ∧ q (pAt l (jM1 q l 1)) = true := by
 obtain ⟨a, b, c⟩ := qU8 (k := 1) (by omega) h
 refine ⟨a, by omega, ?_⟩
 rw [show jM1 q l 1 - 1 + 1 = jM1 q l 1 by omega] at c
 exact c
def jUy (l : List jJu) (p : jJu) : Int :=
 if p.Op = 1 ∨ p.Op = 6 ∨ p.Op = 7 then jG6 l p.Order
 else if p.Op = 2 ∨ p.Op = 3 then jFk l p.Order p.Item
 else if p.Op = 4 ∨ p.Op = 5 then p.Ref
 else 0
def jRe (l : List jJu) (n : Int) : Bool := l.any fun p => decide (p.Op = 8) && decide (p.Ref = n)
def jAj : Nat → List jJu → Int → Bool
 | 0, _, _ => true
 | k + 1, l, n => if n ≤ 0 then true else !jRe l n && jAj k l (jUy l (pAt l n))
def jYu (l : List jJu) (n : Int) : Bool := jAj n.toNat l n
def jFl (l : List jJu) : Prop := ∀ n : Int, 1 ≤ n → n ≤ l.length → 0 ≤ jUy l (pAt l n) ∧ jUy l (pAt l n) < n
theorem qJe {l : List jJu} (b : jFl l) : ∀ (k : Nat) (n : Int), n ≤ l.length → n.toNat ≤ k → jAj k l n = jYu l n := by
  intro k
  induction k using Nat.strongRecOn with
  | _ k ih =>
    intro n h1 h2
    unfold jYu
    by_cases h0 : n ≤ 0
    · rw [show n.toNat = 0 by omega]
      cases k with
      | zero => rfl
      | succ k => unfold jAj; rw [if_pos h0]
    · obtain ⟨j, hj⟩ : ∃ j, n.toNat = j + 1 := ⟨n.toNat - 1, by omega⟩
      rw [hj]
      cases k with
      | zero => omega
      | succ k =>
        unfold jAj
        rw [if_neg h0, if_neg h0]
        have := b n (by omega) h1
        by_cases hk : j = k
        · rw [hk]
        · rw [ih k (by omega) _ (by omega) (by omega), ih j (by omega) _ (by omega) (by omega)]
theorem qQq {l : List jJu} {n : Int} (h : n ≤ 0) : jYu l n = true := by
 unfold jYu; rw [show n.toNat = 0 by omega]; rfl
theorem qJm {l : List jJu} (b : jFl l) {n : Int} (h : 1 ≤ n) (h1 : n ≤ l.length) : jYu l n = (!jRe l n && jYu l (jUy l (pAt l n))) := by
 have e : jYu l n = jAj (n.toNat - 1 + 1) l n := by unfold jYu; rw [show n.toNat - 1 + 1 = n.toNat by omega]
 rw [e]
 have := b n h h1
 unfold jAj
 rw [if_neg (by omega), qJe b _ _ (by omega) (by omega)]
def stB (l : List jJu) (n : Int) : Bool := decide (n ≠ 0) && jYu l n
def qVn (l : List jJu) (n : Int) (f : Int → Bool) : Bool := decide (1 ≤ n) && decide (n ≤ l.length) && f (pAt l n).Op && jYu l n
def dayB (l : List jJu) (p : jJu) : Bool := decide (l = []) || decide ((pAt l l.length).Day ≤ p.Day)
def jPv (l : List jJu) (p : jJu) : Bool :=
 if p.Op = 0 then decide (jG6 l p.Order = 0)
 else if p.Op = 1 then stB l (jG6 l p.Order) && decide (jFk l p.Order p.Item = 0)
 else if p.Op = 2 ∨ p.Op = 3 then stB l (jFk l p.Order p.Item)
 else if p.Op = 4 then qVn l p.Ref (fun o => decide (o = 2) || decide (o = 3)) && !(decide ((pAt l p.Ref).Op = 3) && decide ((pAt l p.Ref).Who = p.Who))
 else if p.Op = 5 then qVn l p.Ref (fun o => decide (o = 1) || decide (o = 2) || decide (o = 3)) && (decide ((pAt l p.Ref).Op = 2) || decide (0 ≤ p.Amount))
 else if p.Op = 6 ∨ p.Op = 7 then stB l (jG6 l p.Order)
 else qVn l p.Ref (fun o => decide (0 ≤ o) && decide (o ≤ 7))
end Go.KB
namespace Go.KB
set_option linter.unusedVariables false
structure Okp (nm : Str → Prop) (p : jJu) : Prop where
 op : 0 ≤ p.Op ∧ p.Op ≤ 8
 day : 0 ≤ p.Day ∧ p.Day ≤ 10000
 ord : if p.Op = 4 ∨ p.Op = 5 ∨ p.Op = 8 then p.Order = [] else nm p.Order
 itm : if p.Op = 1 ∨ p.Op = 2 ∨ p.Op = 3 then nm p.Item else p.Item = []
 shp : if p.Op = 0 then nm p.Ship else p.Ship = []
 who : if p.Op = 3 ∨ p.Op = 4 then nm p.Who else p.Who = []
 amt : if p.Op = 1 ∨ p.Op = 3 then 0 ≤ p.Amount ∧ p.Amount ≤ 1000000000 else if p.Op = 2 ∨ p.Op = 5 then -1000000000 ≤ p.Amount ∧ p.Amount ≤ 1000000000 else if p.Op = 7 then 1 ≤ p.Amount ∧ p.Amount ≤ 1000000000 else p.Amount = 0
 ref : if p.Op = 4 ∨ p.Op = 5 ∨ p.Op = 8 then 1 ≤ p.Ref ∧ p.Ref ≤ 400 else p.Ref = 0
 rol : if p.Op = 4 then 0 ≤ p.Role ∧ p.Role ≤ 1 else p.Role = 0
def Vl (nm : Str → Prop) (m : List jJu) : Prop := ∀ l p r, m = l ++ p :: r → Okp nm p ∧ jPv l p = true ∧ dayB l p = true
theorem Vl.nil {nm : Str → Prop} : Vl nm [] := fun l p r h => by cases l <;> cases h
theorem Vl.left {nm : Str → Prop} {m r : List jJu} (v : Vl nm (m ++ r)) : Vl nm m := fun l p q h => v l p (q ++ r) (by rw [h, List.append_assoc, List.cons_append])
theorem qQh {α : Type} {m l r : List α} {p q : α} (h : m ++ [q] = l ++ p :: r) : (r = [] ∧ m = l ∧ q = p) ∨ ∃ r', m = l ++ p :: r' := by
 rcases List.eq_nil_or_concat r with e | ⟨r', x, e⟩
 ·left
  rw [e] at h
  have := List.append_inj' h rfl
  exact ⟨e, this.1, List.head_eq_of_cons_eq this.2⟩
 ·right
  rw [e, show l ++ p :: (r'.concat x) = (l ++ p :: r') ++ [x] by simp] at h
  exact ⟨r', (List.append_inj' h rfl).1⟩
theorem Vl.snoc {nm : Str → Prop} {m : List jJu} {p : jJu} (v : Vl nm m) (o : Okp nm p) (r : jPv m p = true) (d : dayB m p = true) : Vl nm (m ++ [p]) := fun l q s h => by
 rcases qQh h with ⟨_, e, e'⟩ | ⟨r', e⟩
 ·rw [← e, ← e']; exact ⟨o, r, d⟩
 ·exact v l q r' e
theorem jRs {m : List jJu} {n : Int} (h : 1 ≤ n) (h1 : n ≤ m.length) : ∃ l r, m = l ++ pAt m n :: r ∧ (l.length : Int) = n - 1 := by
 have hi : (n - 1).toNat < m.length := by omega
 refine ⟨m.take (n - 1).toNat, m.drop ((n - 1).toNat + 1), ?_, by rw [List.length_take]; omega⟩
 unfold pAt
 rw [List.getElem?_eq_getElem hi]
 exact ((List.take_append_drop (n - 1).toNat m).symm.trans (by rw [List.drop_eq_getElem_cons hi]; rfl))
theorem Vl.at {nm : Str → Prop} {m : List jJu} (v : Vl nm m) {n : Int} (h : 1 ≤ n) (h1 : n ≤ m.length) : Okp nm (pAt m n) := by
 obtain ⟨l, r, e, _⟩ := jRs h h1
 exact (v l _ r e).1
theorem jNb {l : List jJu} {n : Int} : stB l n = true ↔ n ≠ 0 ∧ jYu l n = true := by unfold stB; simp
theorem jLg {l : List jJu} {n : Int} {f : Int → Bool} : qVn l n f = true ↔ 1 ≤ n ∧ n ≤ l.length ∧ f (pAt l n).Op = true ∧ jYu l n = true := by unfold qVn; simp [and_assoc]
theorem qJj {l r : List jJu} {o : Str} (h : jG6 l o ≠ 0) : jG6 (l ++ r) o = jG6 l o := by
 unfold jG6 at *; rw [jB4 (by omega), if_neg h]
theorem qWe {l r : List jJu} {o i : Str} (h : jFk l o i ≠ 0) : jFk (l ++ r) o i = jFk l o i := by
 unfold jFk at *; rw [jB4 (by omega), if_neg h]
theorem jPg {l : List jJu} {p : jJu} (h : p.Op = 1 ∨ p.Op = 6 ∨ p.Op = 7) : jUy l p = jG6 l p.Order := by unfold jUy; rw [if_pos h]
theorem jT8 {l : List jJu} {p : jJu} (h : p.Op = 2 ∨ p.Op = 3) : jUy l p = jFk l p.Order p.Item := by unfold jUy; rw [if_neg (by omega), if_pos h]
theorem jT6 {l : List jJu} {p : jJu} (h : p.Op = 4 ∨ p.Op = 5) : jUy l p = p.Ref := by unfold jUy; rw [if_neg (by omega), if_neg (by omega), if_pos h]
theorem base0 {l : List jJu} {p : jJu} (h : p.Op ≤ 0 ∨ 8 ≤ p.Op) : jUy l p = 0 := by unfold jUy; rw [if_neg (by omega), if_neg (by omega), if_neg (by omega)]
theorem qZe {l : List jJu} {o : Str} (hz : jG6 l o ≠ 0) : 1 ≤ jG6 l o ∧ jG6 l o ≤ l.length ∧ (pAt l (jG6 l o)).Op = 0 ∧ (pAt l (jG6 l o)).Order = o := by
 obtain ⟨a, b, c⟩ := qXv (q := jTx o) hz
 unfold jTx at c
 rw [Bool.and_eq_true, decide_eq_true_eq, decide_eq_true_eq] at c
 exact ⟨a, b, c⟩
theorem qXz {l : List jJu} {o i : Str} (hz : jFk l o i ≠ 0) : 1 ≤ jFk l o i ∧ jFk l o i ≤ l.length ∧ (pAt l (jFk l o i)).Op = 1 ∧ (pAt l (jFk l o i)).Order = o ∧ (pAt l (jFk l o i)).Item = i := by
 obtain ⟨a, b, c⟩ := qXv (q := jSg o i) hz
 unfold jSg at c
 rw [Bool.and_eq_true, Bool.and_eq_true, decide_eq_true_eq, decide_eq_true_eq, decide_eq_true_eq] at c
 exact ⟨a, b, c.1.1, c.1.2, c.2⟩
theorem ref0 {l : List jJu} {p : jJu} (h : p.Op = 0) : jPv l p = decide (jG6 l p.Order = 0) := by unfold jPv; rw [if_pos h]
theorem ref1 {l : List jJu} {p : jJu} (h : p.Op = 1) : jPv l p = (stB l (jG6 l p.Order) && decide (jFk l p.Order p.Item = 0)) := by unfold jPv; rw [if_neg (by omega), if_pos h]
theorem qY3 {l : List jJu} {p : jJu} (h : p.Op = 2 ∨ p.Op = 3) : jPv l p = stB l (jFk l p.Order p.Item) := by unfold jPv; rw [if_neg (by omega), if_neg (by omega), if_pos h]
theorem ref4 {l : List jJu} {p : jJu} (h : p.Op = 4) : jPv l p = (qVn l p.Ref (fun o => decide (o = 2) || decide (o = 3)) && !(decide ((pAt l p.Ref).Op = 3) && decide ((pAt l p.Ref).Who = p.Who))) := by
 unfold jPv; rw [if_neg (by omega), if_neg (by omega), if_neg (by omega), if_pos h]
theorem ref5 {l : List jJu} {p : jJu} (h : p.Op = 5) : jPv l p = (qVn l p.Ref (fun o => decide (o = 1) || decide (o = 2) || decide (o = 3)) && (decide ((pAt l p.Ref).Op = 2) || decide (0 ≤ p.Amount))) := by
 unfold jPv; rw [if_neg (by omega), if_neg (by omega), if_neg (by omega), if_neg (by omega), if_pos h]
theorem qUj {l : List jJu} {p : jJu} (h : p.Op = 6 ∨ p.Op = 7) : jPv l p = stB l (jG6 l p.Order) := by
 unfold jPv; rw [if_neg (by omega), if_neg (by omega), if_neg (by omega), if_neg (by omega), if_neg (by omega), if_pos h]
theorem ref8 {l : List jJu} {p : jJu} (h : p.Op = 8) : jPv l p = qVn l p.Ref (fun o => decide (0 ≤ o) && decide (o ≤ 7)) := by
 unfold jPv; rw [if_neg (by omega), if_neg (by omega), if_neg (by omega), if_neg (by omega), if_neg (by omega), if_neg (by omega)]
theorem jA8 {l : List jJu} {p : jJu} {r : List jJu} (hp : 0 ≤ p.Op ∧ p.Op ≤ 8) (h : jPv l p = true) : jUy (l ++ r) p = jUy l p ∧ 0 ≤ jUy l p ∧ jUy l p ≤ l.length ∧ (jUy l p ≠ 0 → jYu l (jUy l p) = true ∧ (pAt l (jUy l p)).Op ≠ 8) := by
  have hc : p.Op = 0 ∨ p.Op = 1 ∨ (p.Op = 2 ∨ p.Op = 3) ∨ p.Op = 4 ∨ p.Op = 5 ∨ (p.Op = 6 ∨ p.Op = 7) ∨ p.Op = 8 := by omega
  rcases hc with k | k | k | k | k | k | k
  · rw [base0 (.inl (by omega)), base0 (.inl (by omega))]
    exact ⟨rfl, by omega, by omega, fun h => absurd rfl h⟩
  · rw [ref1 k, Bool.and_eq_true, jNb] at h
    rw [jPg (.inl k), jPg (.inl k), qJj h.1.1]
    obtain ⟨a, b, c, _⟩ := qZe h.1.1
    exact ⟨rfl, by omega, b, fun _ => ⟨h.1.2, by rw [c]; decide⟩⟩
  · rw [qY3 k, jNb] at h
    rw [jT8 k, jT8 k, qWe h.1]
    obtain ⟨a, b, c, _⟩ := qXz h.1
    exact ⟨rfl, by omega, b, fun _ => ⟨h.2, by rw [c]; decide⟩⟩
  · rw [ref4 k, Bool.and_eq_true, jLg] at h
    rw [jT6 (.inl k), jT6 (.inl k)]
    obtain ⟨⟨a, b, c, d⟩, _⟩ := h
    refine ⟨rfl, by omega, b, fun _ => ⟨d, ?_⟩⟩
    simp at c; omega
  · rw [ref5 k, Bool.and_eq_true, jLg] at h
    rw [jT6 (.inr k), jT6 (.inr k)]
    obtain ⟨⟨a, b, c, d⟩, _⟩ := h
    refine ⟨rfl, by omega, b, fun _ => ⟨d, ?_⟩⟩
    simp at c; omega
  · rw [qUj k, jNb] at h
    rw [jPg (.inr k), jPg (.inr k), qJj h.1]
    obtain ⟨a, b, c, _⟩ := qZe h.1
    exact ⟨rfl, by omega, b, fun _ => ⟨h.2, by rw [c]; decide⟩⟩
  · rw [base0 (.inr (by omega)), base0 (.inr (by omega))]
    exact ⟨rfl, by omega, by omega, fun h => absurd rfl h⟩
theorem Vl.step {nm : Str → Prop} {m : List jJu} (v : Vl nm m) {n : Int} (h : 1 ≤ n) (h1 : n ≤ m.length) : 0 ≤ jUy m (pAt m n) ∧ jUy m (pAt m n) < n ∧ (jUy m (pAt m n) ≠ 0 → (pAt m (jUy m (pAt m n))).Op ≠ 8) := by
 obtain ⟨l, r, e, hl⟩ := jRs h h1
 obtain ⟨b1, b2, b3, b4⟩ := jA8 (r := pAt m n :: r) (v l _ r e).1.op (v l _ r e).2.1
 rw [← e] at b1
 rw [b1]
 refine ⟨b2, by omega, fun hz => ?_⟩
 have := (b4 hz).2
 have e2 : pAt m (jUy l (pAt m n)) = pAt l (jUy l (pAt m n)) := by
  have := jPt (l := l) (r := pAt m n :: r) (n := jUy l (pAt m n)) (by omega) b3
  rw [← e] at this; exact this
 rw [e2]; exact this
theorem Vl.base {nm : Str → Prop} {m : List jJu} (v : Vl nm m) : jFl m := fun n h h1 => ⟨(v.step h h1).1, (v.step h h1).2.1⟩
def jKm (m : List jJu) (n : Int) : Bool := jYu m n && !decide ((pAt m n).Op = 8)
theorem jSu {nm : Str → Prop} {m : List jJu} (v : Vl nm m) {n : Int} (h : 1 ≤ n) (h1 : n ≤ m.length) (hk : jKm m n = true) (hz : jUy m (pAt m n) ≠ 0) : jKm m (jUy m (pAt m n)) = true := by
 unfold jKm at *
 rw [Bool.and_eq_true] at hk
 have hl := hk.1
 rw [qJm v.base h h1, Bool.and_eq_true] at hl
 rw [hl.2, decide_eq_false ((v.step h h1).2.2 hz)]; rfl
def jWz (m : List jJu) (j : Nat) : jS6 := ((List.range j).filter fun (i : Nat) => jKm m (i + 1)).map fun (i : Nat) => ((i : Int) + 1, pAt m (i + 1))
def jQy (m : List jJu) : jS6 := jWz m m.length
def nuN (m : List jJu) (n : Int) : Int := (jWz m n.toNat).length
theorem jU8 (m : List jJu) (j : Nat) : jWz m (j + 1) = jWz m j ++ (if jKm m (j + 1) = true then [((j : Int) + 1, pAt m (j + 1))] else []) := by
 unfold jWz
 rw [List.range_succ, List.filter_append, List.map_append]
 congr 1
 by_cases h : jKm m (j + 1) = true
 ·simp [h]
 ·simp [h]
theorem jUh {m : List jJu} {j : Nat} {e : Int × jJu} : e ∈ jWz m j ↔ 1 ≤ e.1 ∧ e.1 ≤ j ∧ jKm m e.1 = true ∧ e.2 = pAt m e.1 := by
 unfold jWz
 rw [List.mem_map]
 constructor
 ·rintro ⟨i, hi, rfl⟩
  rw [List.mem_filter, List.mem_range] at hi
  exact ⟨by dsimp only; omega, by dsimp only; omega, hi.2, rfl⟩
 ·rintro ⟨a, b, c, d⟩
  refine ⟨(e.1 - 1).toNat, ?_, ?_⟩
  ·rw [List.mem_filter, List.mem_range]
   refine ⟨by omega, ?_⟩
   rw [show (((e.1 - 1).toNat : Nat) : Int) + 1 = e.1 by omega]; exact c
  ·rw [show (((e.1 - 1).toNat : Nat) : Int) + 1 = e.1 by omega, ← d]
theorem qKr (m : List jJu) (j : Nat) : nuN m (j + 1 : Nat) = nuN m j + (if jKm m (j + 1) = true then 1 else 0) := by
 unfold nuN
 rw [show ((j + 1 : Nat) : Int).toNat = j + 1 by omega, show ((j : Nat) : Int).toNat = j by omega, jU8, List.length_append]
 split
 ·rw [List.length_singleton]; omega
 ·rw [List.length_nil]; omega
theorem qUq {m : List jJu} {n : Int} (h : 1 ≤ n) (hk : jKm m n = true) : nuN m n = nuN m (n - 1) + 1 := by
 have := qKr m (n - 1).toNat
 rw [show (((n - 1).toNat + 1 : Nat) : Int) = n by omega, show (((n - 1).toNat : Nat) : Int) = n - 1 by omega, show n - 1 + 1 = n by omega, if_pos hk] at this
 exact this
def jF5 (m : List jJu) (j : Nat) : List jJu := (jWz m j).map fun e => renP (nuN m) e.2
def jNn (m : List jJu) : List jJu := jF5 m m.length
theorem jAn (m : List jJu) (j : Nat) : ((jF5 m j).length : Int) = nuN m j := by
 unfold jF5 nuN; rw [List.length_map]; rfl
theorem jTj (m : List jJu) (j : Nat) : jF5 m (j + 1) = jF5 m j ++ (if jKm m (j + 1) = true then [renP (nuN m) (pAt m (j + 1))] else []) := by
 unfold jF5
 rw [jU8, List.map_append]
 congr 1
 split <;> rfl
end Go.KB
namespace Go.KB
set_option linter.unusedVariables false
section
variable {nm : Str → Prop} {m : List jJu}
theorem jLl {n : Int} (h : jKm m n = true) : jYu m n = true := by
 unfold jKm at h
 rw [Bool.and_eq_true] at h
 exact h.1
theorem Vl.split (v : Vl nm m) {n : Int} (h : 1 ≤ n) (h1 : n ≤ m.length) : ∃ l r, m = l ++ pAt m n :: r ∧ (l.length : Int) = n - 1 ∧ Okp nm (pAt m n) ∧ jPv l (pAt m n) = true ∧ (∀ k : Int, 1 ≤ k → k < n → pAt l k = pAt m k) ∧ jUy m (pAt m n) = jUy l (pAt m n) := by
  obtain ⟨l, r, e, hl⟩ := jRs h h1
  obtain ⟨a, b, c⟩ := v l _ r e
  refine ⟨l, r, e, hl, a, b, fun k hk hk1 => ?_, ?_⟩
  · have := jPt (l := l) (r := pAt m n :: r) hk (by omega)
    rw [← e] at this; exact this.symm
  · have := (jA8 (r := pAt m n :: r) a.op b).1
    rw [← e] at this; exact this
end
end Go.KB
