/- Plain laws of chapter 7: why a permit is not opened. Plain laws of chapter 7: the people in the spaces, in the order of their names. Plain laws of chapter 7: what the program's office does. Plain laws of chapter 7: each event in the program's office. Plain laws of chapter 7: the program's office does what the office by names does. Plain laws of chapter 7: what the statements share. No condition. -/
import Derived.Test.YtekbfkfjhgfieaaGreatPZn
import Derived.Test.YtekbfkfjhgfieaaGreatPAwk
namespace Go.KB
set_option linter.unusedVariables false
def qYr {S R : Type} (Y : S → R → Option (S × Bool)) : List R → S → Option S
 | [], s => some s
 | r :: l, s => (Y s r).bind fun v => bif v.2 then qYr Y l v.1 else some v.1
theorem yloop {S : Type} {N : Nat} {Y : S → jJ7 → Option (S × Bool)} {l : List jJ7} {s : S} (hl : l.length < 1000) (hN : 1000000 ≤ N) : ((jXm (jQt N Y l) N (0, s)).bind fun o15 => Sum.elim (fun l17 => some l17) (fun r18 => some r18) o15) = qYr Y (l.filter fun r => !r.Names.isEmpty) s := by
 have key : ∀ k i s, i + k = l.length → ∀ M, k < M → ((jXm (jQt N Y l) M ((i : Int), s)).bind fun o15 => Sum.elim (fun l17 => some l17) (fun r18 => some r18) o15) = qYr Y ((l.drop i).filter fun r => !r.Names.isEmpty) s := by
  intro k
  induction k with
  | zero =>
   intro i s hi M hM
   obtain ⟨M, rfl⟩ : ∃ m, M = m + 1 := ⟨M - 1, by omega⟩
   have : i = l.length := by omega
   subst this
   have e : jQt N Y l ((l.length : Int), s) = some (.inr (Sum.inl s)) := by
    unfold jQt
    simp only []
    rw [jQq, dF (by omega), cond_false]
   simp only [jXm, e, List.drop_length]; rfl
  | succ k ih =>
   intro i s hi M hM
   obtain ⟨M, rfl⟩ : ∃ m, M = m + 1 := ⟨M - 1, by omega⟩
   have hil : i < l.length := by omega
   have e : jQt N Y l ((i : Int), s) = bif !l[i].Names.isEmpty then (Y s l[i]).bind (fun v => bif v.2 then some (.inl (((i + 1 : Nat) : Int), v.1)) else some (.inr (.inr v.1))) else some (.inl (((i + 1 : Nat) : Int), s)) := by
    unfold jQt
    simp only []
    rw [jQq, dT (by omega), cond_true, jVw hil, bS, gt0, jDj (by omega)]
    cases l[i].Names.isEmpty with
    | true => rfl
    | false =>
     simp only [Bool.not_false, cond_true, Bool.true_and]
     congr 1
     funext v
     cases v.2 <;> rfl
   simp only [jXm, e]
   rw [drop_at hil, List.filter_cons]
   cases hn : l[i].Names.isEmpty with
   | true => simp only [Bool.not_true, cond_false]; exact ih (i + 1) s (by omega) M (by omega)
   | false =>
    simp only [Bool.not_false, cond_true, if_true, qYr]
    cases hy : Y s l[i] with
    | none => rfl
    | some v =>
     simp only [bS]
     cases hv : v.2 with
     | false => rfl
     | true => simp only [cond_true]; exact ih (i + 1) v.1 (by omega) M (by omega)
 simpa using key l.length 0 s (by omega) N (by omega)
theorem jM5 {p : GPermitPlan} {A : AO} {N : Nat} {f : (List Str × Int) → Option ((List Str × Int) ⊕ List Str)} {so : jJg → Bool} (hp : SmP p) (hN : 1000000 ≤ N) (hf : ∀ (i : Nat) (hi : i < p.Permits.length) (acc : List Str), acc.length < 1000000 → f (acc, (i : Int)) = bif decide (stA A p.Permits[i].Name = 2) && so p.Permits[i] then ((app acc [p.Permits[i].Name]).bind fun v => some (.inl (v, ((i + 1 : Nat) : Int)))) else some (.inl (acc, ((i + 1 : Nat) : Int)))) (he : ∀ acc, f (acc, (p.Permits.length : Int)) = some (.inr acc)) : jXm f N ([], 0) = some (jU9 p A so) := by
 have hm := hp.m
 have hlim : lim ≥ 10000000 := by decide
 rw [qZj (f := f) p.Permits [] (fun x => decide (stA A x.Name = 2) && so x) (fun x => x.Name) (fun a i => (a, i)) (fun a => a) (fun i hi acc hacc => ?_) he (by omega)]
 ·rfl
 ·simp only [List.length_nil] at hacc
  rw [hf i hi acc (by omega)]
  cases (decide (stA A p.Permits[i].Name = 2) && so p.Permits[i]) with
  | false => rfl
  | true => simp only [cond_true]; rw [qQ9 (by simp only [List.length_singleton]; omega)]; rfl
section
variable {N : Nat} {p : GPermitPlan} {A : AO} {g : jJq} {st : List (Str × jJj)} {air : List (Str × jJz)} {pe : List (Str × Str)} (hp : SmP p) (ho : OkP p) (hN : 1000000 ≤ N) (h : RelA p A g st air pe) (b : BdA A)
include hp hN h
theorem qV8 {x : jJg} : jX5 N g st air pe x = some (jU9 p A fun y => jDn p y x) := by
 have hm := hp.m
 unfold jX5
 rw [jM5 (f := jQ0 N g st air pe x) (A := A) (so := fun y => jDn p y x) hp hN (fun i hi acc hacc => ?_) (fun acc => ?_)]
 ·rfl
 ·unfold jQ0
  simp only []
  rw [h.b.plan, jQq, dT (by omega), cond_true, jVw hi, bS, jPq hN h.st (jL7 hi) (by decide), bS, jDj (by omega)]
  have hc : ([2] : List Int).contains (stA A p.Permits[i].Name) = decide (stA A p.Permits[i].Name = 2) := by rw [Bool.eq_iff_iff]; simp
  have hq : jVk N g st air pe p.Permits[i] x = some (jDn p p.Permits[i] x) := by
   unfold jVk
   rw [h.b.plan, jAp hp hN]; rfl
  rw [hc, hq]
  cases decide (stA A p.Permits[i].Name = 2) with
  | false => rfl
  | true => rfl
 ·unfold jQ0
  simp only []
  rw [h.b.plan, jQq, dF (by omega), cond_false]
end
end Go.KB
namespace Go.KB
set_option linter.unusedVariables false
theorem qXg (a b c : Str) (h1 : a ≤ b) (h2 : b ≤ c) : a ≤ c := List.le_trans h1 h2
theorem qXc (a b : Str) : a ≤ b ∨ b ≤ a := List.le_total a b
theorem jT1 (a b : Str) (h1 : a ≤ b) (h2 : b ≤ a) : a = b := Std.Antisymm.antisymm (r := (· ≤ ·)) a b h1 h2
theorem slt_le {a b : Str} (h : a < b) : a ≤ b := List.le_of_lt h
theorem jT4 {l m : List Str} (hp : l.Perm m) (hs : m.Pairwise (fun a b => a < b)) : jMx l = m := by
 unfold jMx
 refine List.Perm.eq_of_pairwise (le := fun a b : Str => a ≤ b) (fun a b _ _ h1 h2 => jT1 a b h1 h2) ?_ (hs.imp fun h => slt_le h) ((List.mergeSort_perm _ _).trans hp)
 have := List.pairwise_mergeSort (le := fun x y : Str => decide (x ≤ y)) (fun a b c h1 h2 => decide_eq_true (qXg a b c (of_decide_eq_true h1) (of_decide_eq_true h2))) (fun a b => by
  rcases qXc a b with h | h <;> simp [h]) l
 exact this.imp fun h => of_decide_eq_true h
theorem qZx {f : List Str → (Str × Str) → Option (List Str)} {so : Str → Bool} (π : List (Str × Str)) (hf : ∀ acc q, q ∈ π → acc.length < 1000000 → f acc q = some (bif so q.2 then acc ++ [q.1] else acc)) : ∀ acc, acc.length + π.length < 1000000 → qQx f π acc = some (acc ++ (π.filter fun q => so q.2).map fun q => q.1) := by
 induction π with
 | nil => intro acc _; simp [qQx]
 | cons q r ih =>
  intro acc h
  simp only [List.length_cons] at h
  unfold qQx
  rw [hf acc q List.mem_cons_self (by omega), bS, ih (fun acc q hq => hf acc q (List.mem_cons_of_mem _ hq)) _ (by cases so q.2 <;> simp <;> omega), List.filter_cons]
  cases so q.2 <;> simp
theorem qJf {A : AO} {pe : List (Str × Str)} {f : List Str → (Str × Str) → Option (List Str)} {so : Str → Bool} (hpe : pe.Perm A.pp) (hpp : A.pp.Pairwise (fun a b => a.1 < b.1)) (hl : A.pp.length < 1000000) (hf : ∀ acc q, q ∈ pe → acc.length < 1000000 → f acc q = some (bif so q.2 then acc ++ [q.1] else acc)) :
    (jPd pe fun q => (qQx f q []).bind fun s => (qJ9 s).bind fun v => some v) = some (jMz A so) := by
  refine qZk fun π hπ => ?_
  have hp : π.Perm A.pp := hπ.trans hpe
  have hlen : π.length = A.pp.length := hp.length_eq
  rw [qZx (so := so) π (fun acc q hq h => hf acc q (hπ.mem_iff.1 hq) h) [] (by simp; omega), bS, List.nil_append]
  have hs : qJ9 ((π.filter fun q => so q.2).map fun q => q.1) = some (jMz A so) := by
    unfold qJ9
    have h1 : ((π.filter fun q => so q.2).map fun q => q.1).length ≤ 1000000 := by
      rw [List.length_map]; have := List.length_filter_le (fun q : Str × Str => so q.2) π; omega
    rw [Nat.ble_eq_true_of_le h1, cond_true]
    congr 1
    refine jT4 ((hp.filter _).map _) ?_
    unfold jMz
    rw [List.pairwise_map]
    exact List.Pairwise.filter _ hpp
  rw [hs]; rfl
end Go.KB
namespace Go.KB
set_option linter.unusedVariables false
theorem ne0 {α : Type} {l : List α} : jJy .eql (List.length l : Int) 0 = l.isEmpty := by
 rw [jU2]
 cases l with
 | nil => rfl
 | cons x r => simp; omega
def outF (R : AO × List Str × Int) (a b : List (Str × jJj)) : List (Str × jJj) × jJk := (bif decide (R.2.2 = 0) then a else b, ⟨R.2.1, R.2.2⟩)
theorem qJ3 {A : AO} {e : Int} {l : List Str} {a b : List (Str × jJj)} (he : e ≠ 0) : outF (jLm A e l) a b = (b, ⟨l, e⟩) := by
 show ((bif decide (e = 0) then a else b), (⟨l, e⟩ : jJk)) = _
 rw [dF he]; rfl
theorem qJ8 {l : List jJ7} {g : jJk → jJ7 → Option (jJk × Option Nat)} (hg : ∀ s r, g s r = some (⟨r.Names, r.Err⟩, some 0)) : qYr (yl g 1) l ((⟨[], 0⟩ : jJk), none) = some (match l with | [] => (⟨[], 0⟩, none) | r :: _ => (⟨r.Names, r.Err⟩, some 0)) := by
 cases l with
 | nil => rfl
 | cons r l =>
  unfold qYr yl
  simp only [hg]
  rfl
theorem qVv {p : GPermitPlan} {A : AO} {x : jJg} : ∀ r ∈ qVl p A x, r.Err ≠ 0 := by
 intro r hr
 unfold qVl at hr
 rcases List.mem_append.1 hr with hr | hr
 ·cases hd : decide (A.now < x.From) with
  | false => rw [hd] at hr; cases hr
  | true => rw [hd, cond_true, List.mem_singleton] at hr; subst hr; decide
 ·have hr := (List.mem_filter.1 hr).1
  rcases List.mem_append.1 hr with hr | hr
  ·simp only [List.mem_cons, List.not_mem_nil, or_false] at hr
   rcases hr with rfl | rfl | rfl <;> simp
  ·cases hd : decide (x.Kind = 3) with
   | false => rw [hd] at hr; cases hr
   | true => rw [hd, cond_true, List.mem_singleton] at hr; subst hr; simp
section
variable {N : Nat} {p : GPermitPlan} {A : AO} {g : jJq} {st : List (Str × jJj)} {air : List (Str × jJz)} {pe : List (Str × Str)} (hp : SmP p) (ho : OkP p) (hN : 1000000 ≤ N) (h : RelA p A g st air pe) (b : BdA A) (hpp : A.pp.Pairwise (fun a b => a.1 < b.1))
include hp hN h
theorem jAu {φ : jJg → Option Bool} {so : jJg → Bool} (hφ : ∀ y ∈ p.Permits, φ y = some (so y)) : jX6 N g st air pe φ = some (jU9 p A so) := by
 have hm := hp.m
 unfold jX6
 rw [jM5 (f := jVu N g st air pe φ) (A := A) (so := so) hp hN (fun i hi acc hacc => ?_) (fun acc => ?_)]
 ·rfl
 ·unfold jVu
  simp only []
  rw [h.b.plan, jQq, dT (by omega), cond_true, jVw hi, bS, jPq hN h.st (jL7 hi) (by decide), bS, jDj (by omega)]
  have hc : ([2] : List Int).contains (stA A p.Permits[i].Name) = decide (stA A p.Permits[i].Name = 2) := by rw [Bool.eq_iff_iff]; simp
  rw [hc, hφ _ (List.getElem_mem hi)]
  cases decide (stA A p.Permits[i].Name = 2) <;> rfl
 ·unfold jVu
  simp only []
  rw [h.b.plan, jQq, dF (by omega), cond_false]
theorem qZy {s : Str} : jWs N g st air pe s = some (jFu p A s) := by
 unfold jWs jFu
 rw [jAu hp hN h (so := fun y => decide (y.Kind = 1) && decide (y.Space = s)) (fun y _ => by unfold jZp; rw [jU2, jUd]), bS, gt0]
include b hpp
omit hp hN in
theorem qQk {φ : Str → Option Bool} {so : Str → Bool} (hφ : ∀ s, φ s = some (so s)) : jZ1 N g st air pe φ = some (jMz A so) := by
 have hlim : lim ≥ 10000000 := by decide
 unfold jZ1
 refine qJf (f := jVh N φ) h.pe hpp b.pl fun acc q _ hacc => ?_
 unfold jVh
 rw [hφ, bS]
 cases so q.2 with
 | false => rfl
 | true => rw [cond_true, cond_true, qQ9 (by simp only [List.length_singleton]; omega)]; rfl
theorem jC4 {x : jJg} : jXd N g st air pe x = some (jMz A fun s => decide (jUz p s x.Space ≤ 1)) := by
 have hlim : lim ≥ 10000000 := by decide
 unfold jXd
 refine qJf (f := jQ8 N g st air x) (so := fun s => decide (jUz p s x.Space ≤ 1)) h.pe hpp b.pl fun acc q _ hacc => ?_
 unfold jQ8 jVc
 rw [h.b.plan, jP7 hp hN, bS, bS, jBn]
 cases decide (jUz p q.2 x.Space ≤ 1) with
 | false => rfl
 | true => rw [cond_true, cond_true, qQ9 (by simp only [List.length_singleton]; omega)]; rfl
include ho
theorem qQn {S : Type} {Y : S → jJ7 → Option (S × Bool)} {y0 : S} {x : jJg} (hx : x ∈ p.Permits) : jZn N Y y0 g st air pe x = qYr Y (qVl p A x) y0 := by
 have hlim : lim ≥ 10000000 := by decide
 unfold jZn qVl
 rw [jQq, h.b.now, jPr hp hN h.st (hp.l _ hx) (fun l hl => (ho.lk _ hx l hl).1), qV8 hp hN h, jR0 hp hN h.b b, jC4 hp hN h b hpp, jU2]
 simp only [bS]
 have hl : ((bif decide (x.Kind = 3) then ((app [(⟨18, qQq A x⟩ : jJ7), (⟨20, jU9 p A fun y => jDn p y x⟩ : jJ7), (⟨21, jRn p A x⟩ : jJ7)] [(⟨17, jMz A fun s => decide (jUz p s x.Space ≤ 1)⟩ : jJ7)]).bind fun v6 => some v6) else (some [(⟨18, qQq A x⟩ : jJ7), (⟨20, jU9 p A fun y => jDn p y x⟩ : jJ7), (⟨21, jRn p A x⟩ : jJ7)])) : Option (List jJ7)) = some ([(⟨18, qQq A x⟩ : jJ7), (⟨20, jU9 p A (fun y => jDn p y x)⟩ : jJ7), (⟨21, jRn p A x⟩ : jJ7)] ++ (bif decide (x.Kind = 3) then [(⟨17, jMz A (fun s => decide (jUz p s x.Space ≤ 1))⟩ : jJ7)] else [])) := by
  cases decide (x.Kind = 3) with
  | false => rfl
  | true => rw [cond_true, qQ9 (by simp only [List.length_cons, List.length_nil]; omega)]; rfl
 rw [hl]
 simp only [bS]
 have hlen : ([(⟨18, qQq A x⟩ : jJ7), (⟨20, jU9 p A (fun y => jDn p y x)⟩ : jJ7), (⟨21, jRn p A x⟩ : jJ7)] ++ (bif decide (x.Kind = 3) then [(⟨17, jMz A (fun s => decide (jUz p s x.Space ≤ 1))⟩ : jJ7)] else [])).length < 1000 := by
  cases decide (x.Kind = 3) <;> simp
 simp only [yloop hlen hN]
 cases hd : decide (A.now < x.From) with
 | false => simp only [cond_false, bS, Bool.false_and, List.nil_append]
 | true =>
  simp only [cond_true, Bool.true_and, List.singleton_append, qYr]
  congr 1
  funext v
  cases v.2 <;> rfl
theorem qWr {x : GEvent} (hh : jUn p x.Name = true) : jV4 N g st air pe x = some (outF (jNb p A x) (jG5 st x.Name { A.es x.Name with state := 2 }) st) := by
 have hm := hp.m
 unfold jV4 jNb
 rw [jFj (by omega), bS, jUd, h.st.get _ hh]
 cases jWv x.Person with
 | false => rfl
 | true =>
  cases decide (x.Person = (A.es x.Name).by_) with
  | true => rfl
  | false =>
   simp only [Bool.not_true, cond_false]
   rw [h.b.plan, jD8 (by omega) hN, bS]
   unfold jYr
   rw [bS]
   show ((jZn N (yl (jX2 N) 1) ((⟨[], 0⟩ : jJk), none) g st air pe (atP p x.Name)).bind _) = _
   rw [qQn hp ho hN h b hpp (jD5 hh).1, qJ8 (g := jX2 N) (fun s r => rfl), bS]
   have hw := qVv (p := p) (A := A) (x := atP p x.Name)
   cases hwy : qVl p A (atP p x.Name) with
   | nil =>
    simp only [jR3]
    unfold jQu
    rw [h.st.get _ hh]; rfl
   | cons r l =>
    have h0 : r.Err ≠ 0 := hw r (by rw [hwy]; exact List.mem_cons_self)
    show (bif decide True then some (st, (⟨r.Names, r.Err⟩ : jJk)) else none) = some (outF (jLm A r.Err r.Names) _ st)
    rw [qJ3 h0]; rfl
omit ho in
theorem qZe {x : GEvent} (hh : jUn p x.Name = true) : jVn N g st air pe x = some (outF (jM8 p A x) (jG5 st x.Name { A.es x.Name with state := 4 }) st) := by
  have hm := hp.m
  have hs := hp.s
  obtain ⟨hy, hyn⟩ := jD5 hh
  have hb : jQu N g st air pe x.Name 4 = some (jG5 st x.Name { A.es x.Name with state := 4 }) := by
    unfold jQu; rw [h.st.get _ hh]
  unfold jVn jM8
  rw [h.b.plan, jD8 (by omega) hN, bS]
  show ((jXr N p (atP p x.Name).Space).bind fun v2 => _) = _
  rw [jHl (by omega) hN, bS]
  simp only []
  have e1 : jX6 N g st air pe (fun y0 => jXa N y0 (atP p x.Name)) = some (jU9 p A (fun z => inL z.Locks (atP p x.Name).Name)) := jAu hp hN h fun y hy => by
    unfold jXa; rw [jSc (Nat.lt_trans (hp.l y hy) (by decide)) hN]; rfl
  have e2 : jX6 N g st air pe (fun y0 => jXe N y0 (atP p x.Name)) = some (jU9 p A (fun z => decide (z.Kind = 1) && decide (z.Space = (atP p x.Name).Space) && !decide (z.Name = (atP p x.Name).Name))) := jAu hp hN h fun y hy => by
    unfold jXe; rw [jU2, jUd, qYj]
  have e3 : jZ1 N g st air pe (fun y0 => jXc N y0 (atP p x.Name)) = some (jMz A (fun s => decide (s = (atP p x.Name).Space))) := qQk h b hpp fun s => by
    unfold jXc; rw [jUd]
  have e4 : jQd N g st air pe (atP p x.Name).Name [2] = some (decide (stA A (atP p x.Name).Name = 2)) := by
    rw [jPq hN h.st (by rw [hyn]; exact hh) (by decide)]
    congr 1; rw [Bool.eq_iff_iff]; simp
  show (((bif jJy .eql (atP p x.Name).Kind 5 then ((jX6 N g st air pe (fun y0 => jXa N y0 (atP p x.Name))).bind fun v3 => bif (jJy .gtr (List.length v3 : Int) 0) then ((jZl N 20 v3).bind fun v4 => some (Sum.inr v4)) else (some (Sum.inl (⟨[], 0⟩ : jJk)))) else ((bif jJy .eql (atP p x.Name).Kind 1 then (jQd N g st air pe (atP p x.Name).Name [2]) else some false).bind fun v6 => bif ((jJy .eql (atP p x.Name).Kind 1 && v6) && (atS p (atP p x.Name).Space).Enclosed) then ((jX6 N g st air pe (fun y0 => jXe N y0 (atP p x.Name))).bind fun v7 => (jZ1 N g st air pe (fun y0 => jXc N y0 (atP p x.Name))).bind fun v8 => bif (jJy .eql (List.length v7 : Int) 0 && jJy .gtr (List.length v8 : Int) 0) then ((jZl N 21 v8).bind fun v9 => some (Sum.inr v9)) else (some (Sum.inl (⟨[], 0⟩ : jJk)))) else (some (Sum.inl (⟨[], 0⟩ : jJk))))) : Option (jJk ⊕ jJk)).bind fun o13 => Sum.elim (fun l15 => (jQu N g st air pe x.Name 4).bind fun v17 => some (v17, (⟨[], 0⟩ : jJk))) (fun r16 => some (st, r16)) o13) = _
  rw [e1, e2, e3, e4, hb]
  simp only [bS, gt0, ne0]
  simp only [jU2]
  unfold jZl
  by_cases h5 : (atP p x.Name).Kind = 5
  · rw [dT h5, dF (show ¬ (atP p x.Name).Kind = 1 by omega)]
    simp only [cond_true, Bool.true_and, Bool.false_and, cond_false]
    cases (jU9 p A (fun z => inL z.Locks (atP p x.Name).Name)).isEmpty <;> rfl
  · rw [dF h5]
    simp only [cond_false, Bool.false_and]
    cases decide ((atP p x.Name).Kind = 1) with
    | false => rfl
    | true =>
      simp only [cond_true, Bool.true_and, bS]
      cases decide (stA A (atP p x.Name).Name = 2) with
      | false => rfl
      | true =>
        cases (atS p (atP p x.Name).Space).Enclosed with
        | false => rfl
        | true =>
          simp only [Bool.true_and, cond_true]
          cases (jU9 p A (fun z => decide (z.Kind = 1) && decide (z.Space = (atP p x.Name).Space) && !decide (z.Name = (atP p x.Name).Name))).isEmpty with
          | false => rfl
          | true => cases (jMz A (fun s => decide (s = (atP p x.Name).Space))).isEmpty <;> rfl
end
end Go.KB
namespace Go.KB
set_option linter.unusedVariables false
theorem jA6 {α β : Type} [DecidableEq α] {k : α} {y : β} : ∀ {m : List (α × β)}, jY7 m k = false → jG5 m k y = m ++ [(k, y)]
 | [], _ => rfl
 | q :: r, h => by
  unfold jY7 at h
  rw [Bool.or_eq_false_iff] at h
  unfold jG5
  rw [h.1, cond_false, jA6 h.2]; rfl
theorem qJ1 {β : Type} {k : Str} : ∀ {m : List (Str × β)}, jY7 m k = m.any fun q => decide (q.1 = k)
  | [] => rfl
  | q :: r => by
    unfold jY7
    rw [List.any_cons, qJ1, show decide (k = q.1) = decide (q.1 = k) from decide_eq_decide.2 ⟨Eq.symm, Eq.symm⟩]
theorem qVt {α : Type} {l m : List α} {f : α → Bool} (h : l.Perm m) : l.any f = m.any f := by
 rw [Bool.eq_iff_iff, List.any_eq_true, List.any_eq_true]
 exact ⟨fun ⟨x, a, b⟩ => ⟨x, h.mem_iff.1 a, b⟩, fun ⟨x, a, b⟩ => ⟨x, h.mem_iff.2 a, b⟩⟩
theorem jA1 {n s : Str} : ∀ {l : List (Str × Str)}, (qQg l n s).Perm ((n, s) :: l)
 | [] => List.Perm.refl _
 | q :: r => by
  unfold qQg
  cases decide (q.1 < n) with
  | false => exact List.Perm.refl _
  | true => exact (jA1.cons q).trans (List.Perm.swap _ _ _)
theorem jP6 {β : Type} {k : Str} : ∀ {m : List (Str × β)}, (m.map fun q => q.1).Nodup → jTs m k = m.filter fun q => !decide (q.1 = k)
  | [], _ => rfl
  | q :: r, h => by
    rw [List.map_cons, List.nodup_cons] at h
    unfold jTs
    rw [List.filter_cons]
    by_cases hk : k = q.1
    · rw [dT hk, dT hk.symm, cond_true]
      simp only [Bool.not_true, Bool.false_eq_true, if_false]
      refine (List.filter_eq_self.2 fun a ha => ?_).symm
      rw [Bool.not_eq_true', decide_eq_false_iff_not]
      intro he
      exact h.1 (List.mem_map.2 ⟨a, ha, he.trans hk⟩)
    · rw [dF hk, dF (fun e => hk e.symm), cond_false, jP6 h.2]; rfl
theorem qW6 {l : List (Str × Str)} (h : l.Pairwise (fun a b => a.1 < b.1)) : (l.map fun q => q.1).Nodup := by
 unfold List.Nodup
 rw [List.pairwise_map]
 exact h.imp fun {a b} hab he => by
  have hab' : a.1 < b.1 := hab
  rw [he] at hab'
  exact List.lt_irrefl _ hab'
theorem jL5 {N : Nat} {p : GPermitPlan} {s : Str} (hp : SmP p) (hN : 1000000 ≤ N) : jXr N p s = some (atS p s, jNe p s) := by
 have := hp.s
 rw [jHl (by omega) hN]
 exact congrArg some (Prod.ext rfl jMc)
theorem jCf {N : Nat} {p : GPermitPlan} {s : Str} (hp : SmP p) (hN : 1000000 ≤ N) : jV3 N p s = some (atP p s, jUn p s) := by
 have := hp.m
 rw [jD8 (by omega) hN]
 exact congrArg some (Prod.ext rfl jMc)
structure qQ7 (p : GPermitPlan) (g : jJq) (R : AO × List Str × Int) (o : List (Str × jJj) × List (Str × jJz) × List (Str × Str) × jJk) : Prop where
 rel : RelA p R.1 g o.1 o.2.1 o.2.2.1
 ref : o.2.2.2 = ⟨R.2.1, R.2.2⟩
theorem RelA.up {p : GPermitPlan} {A : AO} {g : jJq} {st : List (Str × jJj)} {air : List (Str × jJz)} {pe : List (Str × Str)} (h : RelA p A g st air pe) {n : Str} (hn : jUn p n = true) (e : jJj) : RelA p (upA A n e) g (jG5 st n e) air pe :=
 ⟨⟨h.b.plan, h.b.now, h.b.hair, h.b.airg⟩, h.st.set hn e, h.pe, h.done⟩
section
variable {N : Nat} {p : GPermitPlan} {A : AO} {g : jJq} {st : List (Str × jJj)} {air : List (Str × jJz)} {pe : List (Str × Str)} (hp : SmP p) (ho : OkP p) (hN : 1000000 ≤ N) (h : RelA p A g st air pe) (b : BdA A) (hpp : A.pp.Pairwise (fun a b => a.1 < b.1))
theorem jHh (h : RelA p A g st air pe) {e : Int} {l : List Str} : qQ7 p g (jLm A e l) (st, air, pe, ⟨l, e⟩) := ⟨h, rfl⟩
include hN h
theorem jAq {x : GEvent} (hh : jUn p x.Name = true) : ∃ o, ((jWw N g st air pe x).bind fun y => some (y.1, air, pe, y.2)) = some o ∧ qQ7 p g (jN0 A x) o := by
 unfold jWw jN0
 rw [jFj (by omega), bS, h.st.get _ hh]
 cases jWv x.Person with
 | false => exact ⟨_, rfl, jHh h⟩
 | true => exact ⟨_, rfl, h.up hh _, rfl⟩
theorem qQ5 {x : GEvent} (hh : jUn p x.Name = true) : ∃ o, ((jWm N g st air pe x).bind fun y => some (y.1, air, pe, y.2)) = some o ∧ qQ7 p g (jTj A x) o := by
 unfold jWm jTj
 rw [jFj (by omega), bS, h.st.get _ hh, jBn, jGz]
 cases jWv x.Person with
 | false => exact ⟨_, rfl, jHh h⟩
 | true =>
  cases (decide (x.To ≤ (A.es x.Name).to_) || decide (1000000 < x.To)) with
  | true => exact ⟨_, rfl, jHh h⟩
  | false => exact ⟨_, rfl, h.up hh _, rfl⟩
omit hN in
theorem jSd {x : GEvent} {k : Int} (hh : jUn p x.Name = true) : ∃ o, (((jQu N g st air pe x.Name k).bind fun v1 => some (v1, (⟨[], 0⟩ : jJk))).bind fun y => some (y.1, air, pe, y.2)) = some o ∧ qQ7 p g (jTq (beA A x.Name k)) o := by
 unfold jQu
 rw [h.st.get _ hh]
 exact ⟨_, rfl, h.up hh _, rfl⟩
include hp b hpp ho
theorem jT3 {x : GEvent} (hh : jUn p x.Name = true) : ∃ o, ((jV4 N g st air pe x).bind fun y => some (y.1, air, pe, y.2)) = some o ∧ qQ7 p g (jNb p A x) o := by
 rw [qWr hp ho hN h b hpp hh]
 refine ⟨_, rfl, ?_, rfl⟩
 simp only []
 unfold jNb
 cases jWv x.Person with
 | false => exact h
 | true =>
  cases decide (x.Person = (A.es x.Name).by_) with
  | true => exact h
  | false =>
   simp only [Bool.not_true, cond_false]
   have hw := qVv (p := p) (A := A) (x := atP p x.Name)
   cases hwy : qVl p A (atP p x.Name) with
   | nil => exact h.up hh _
   | cons r l =>
    have h0 : r.Err ≠ 0 := hw r (by rw [hwy]; exact List.mem_cons_self)
    show RelA p A g (outF (jLm A r.Err r.Names) _ st).1 air pe
    rw [qJ3 h0]; exact h
omit ho in
theorem qQh {x : GEvent} (hh : jUn p x.Name = true) : ∃ o, ((jVn N g st air pe x).bind fun y => some (y.1, air, pe, y.2)) = some o ∧ qQ7 p g (jM8 p A x) o := by
 rw [qZe hp hN h b hpp hh]
 refine ⟨_, rfl, ?_, rfl⟩
 simp only []
 unfold jM8
 simp only []
 cases (decide ((atP p x.Name).Kind = 5) && !(jU9 p A (fun z => inL z.Locks (atP p x.Name).Name)).isEmpty) with
 | true => exact h
 | false =>
  rw [cond_false]
  cases (decide ((atP p x.Name).Kind = 1) && decide (stA A (atP p x.Name).Name = 2) && (atS p (atP p x.Name).Space).Enclosed && (jU9 p A (fun z => decide (z.Kind = 1) && decide (z.Space = (atP p x.Name).Space) && !decide (z.Name = (atP p x.Name).Name))).isEmpty && !(jMz A (fun s => decide (s = (atP p x.Name).Space))).isEmpty) with
  | true => exact h
  | false => exact h.up hh _
omit ho hpp b
theorem qK7 {x : GEvent} : ∃ o, ((jYt N g st air pe x).bind fun y => some (st, y.1, pe, y.2)) = some o ∧ qQ7 p g (gasA p A x) o := by
 have hs := hp.s
 unfold jYt gasA
 rw [h.b.plan, jL5 hp hN, bS]
 simp only [jQq, jGz]
 cases jNe p x.Space with
 | false => exact ⟨_, rfl, jHh h⟩
 | true =>
  simp only [Bool.not_true, cond_false]
  cases (decide (x.Oxygen < 0) || decide (1000 < x.Oxygen) || decide (x.Gas < 0) || decide (1000 < x.Gas)) with
  | true => exact ⟨_, rfl, jHh h⟩
  | false =>
   refine ⟨_, rfl, ⟨⟨h.b.plan, h.b.now, fun s => ?_, fun s t e => ?_⟩, h.st, h.pe, h.done⟩, rfl⟩
   ·simp only [cond_false, jTq]
    rw [jMa, h.b.hair]
    cases decide (s = x.Space) <;> rfl
   ·simp only [cond_false, jTq] at e ⊢
    rw [jFt]
    by_cases he : s = x.Space
    ·rw [dT he] at e; cases e; rw [if_pos he, h.b.now]
    ·rw [dF he] at e; rw [if_neg he]; exact h.b.airg s t e
theorem qWp {s : Str} : jZy N g st air pe (atS p s) = some (jU9 p A (fun y => decide (y.Kind = 3) && decide (jUz p y.Space (atS p s).Name ≤ 1))) := by
 have hm := hp.m
 unfold jZy
 rw [jM5 (f := jXz N g st air pe (atS p s)) (A := A) (so := fun y => decide (y.Kind = 3) && decide (jUz p y.Space (atS p s).Name ≤ 1)) hp hN (fun i hi acc hacc => ?_) (fun acc => ?_)]
 ·rfl
 ·unfold jXz
  simp only []
  rw [h.b.plan, jQq, dT (by omega), cond_true, jVw hi, bS, jPq hN h.st (jL7 hi) (by decide), bS, jDj (by omega)]
  have hc : ([2] : List Int).contains (stA A p.Permits[i].Name) = decide (stA A p.Permits[i].Name = 2) := by rw [Bool.eq_iff_iff]; simp
  have hq : jWy N g st air pe p.Permits[i] (atS p s) = some (decide (p.Permits[i].Kind = 3) && decide (jUz p p.Permits[i].Space (atS p s).Name ≤ 1)) := by
   unfold jWy
   rw [h.b.plan, jP7 hp hN, jU2]
   cases decide (p.Permits[i].Kind = 3) with
   | false => rfl
   | true => simp only [cond_true, bS, Bool.true_and, jBn]
  rw [hc, hq]
  cases decide (stA A p.Permits[i].Name = 2) <;> rfl
 ·unfold jXz
  simp only []
  rw [h.b.plan, jQq, dF (by omega), cond_false]
theorem qV3 {x : GEvent} : jZu N g st air pe x = some (jU9 p A (fun y => !decide (y.Kind = 5) && decide (jUz p y.Space x.Space ≤ 1))) := by
 have hm := hp.m
 unfold jZu
 rw [jM5 (f := jXx N g st air pe x) (A := A) (so := fun y => !decide (y.Kind = 5) && decide (jUz p y.Space x.Space ≤ 1)) hp hN (fun i hi acc hacc => ?_) (fun acc => ?_)]
 ·rfl
 ·unfold jXx
  simp only []
  rw [h.b.plan, jQq, dT (by omega), cond_true, jVw hi, bS, jPq hN h.st (jL7 hi) (by decide), bS, jDj (by omega)]
  have hc : ([2] : List Int).contains (stA A p.Permits[i].Name) = decide (stA A p.Permits[i].Name = 2) := by rw [Bool.eq_iff_iff]; simp
  have hq : jWk N g st air pe p.Permits[i] x = some (!decide (p.Permits[i].Kind = 5) && decide (jUz p p.Permits[i].Space x.Space ≤ 1)) := by
   unfold jWk
   rw [h.b.plan, jP7 hp hN, jDd]
   cases (!decide (p.Permits[i].Kind = 5)) with
   | false => rfl
   | true => simp only [cond_true, bS, Bool.true_and, jBn]
  rw [hc, hq]
  cases decide (stA A p.Permits[i].Name = 2) <;> rfl
 ·unfold jXx
  simp only []
  rw [h.b.plan, jQq, dF (by omega), cond_false]
omit hp hN in
theorem jRu {n : Str} : jY7 pe n = jL4 A n := by
 rw [qJ1, qVt h.pe]; rfl
theorem qXs {x : GEvent} : ∃ o, ((jW4 N g st air pe x).bind fun y => some (st, air, y.1, y.2)) = some o ∧ qQ7 p g (qJ4 p A x) o := by
 have hs := hp.s
 unfold jW4 qJ4
 rw [jFj (by omega), bS, h.b.plan]
 cases jWv x.Person with
 | false => exact ⟨_, rfl, jHh h⟩
 | true =>
  simp only [Bool.not_true, cond_false]
  rw [jL5 hp hN, bS]
  simp only []
  cases hh : jNe p x.Space with
  | false => exact ⟨_, rfl, jHh h⟩
  | true =>
   have hnm := (qW1 hh).2
   simp only [Bool.not_true, cond_false]
   rw [qZy hp hN h, qWp hp hN h, jRu h, hnm]
   cases hi : jL4 A x.Person with
   | true => exact ⟨_, rfl, jHh h⟩
   | false =>
    simp only [cond_false]
    have hx : ((bif (atS p x.Space).Enclosed then (some (jFu p A x.Space)) else some false).bind fun v6 => (some (((atS p x.Space).Enclosed && (!v6))) : Option Bool)) = some ((atS p x.Space).Enclosed && !jFu p A x.Space) := by
     cases (atS p x.Space).Enclosed <;> rfl
    have hx2 : ∀ (F : Bool → Option (List (Str × Str) × jJk)), ((bif (atS p x.Space).Enclosed then (some (jFu p A x.Space)) else some false).bind fun v6 => F ((atS p x.Space).Enclosed && (!v6))) = F ((atS p x.Space).Enclosed && !jFu p A x.Space) := by
     intro F; cases (atS p x.Space).Enclosed <;> rfl
    rw [hx2 (fun c => bif c then _ else _)]
    cases ((atS p x.Space).Enclosed && !jFu p A x.Space) with
    | true => exact ⟨_, rfl, jHh h⟩
    | false =>
     simp only [cond_false, bS, gt0]
     cases (!(jU9 p A (fun y => decide (y.Kind = 3) && decide (jUz p y.Space x.Space ≤ 1))).isEmpty) with
     | true => exact ⟨_, rfl, jHh h⟩
     | false =>
      refine ⟨_, rfl, ⟨⟨h.b.plan, h.b.now, h.b.hair, h.b.airg⟩, h.st, ?_, h.done⟩, rfl⟩
      show (jG5 pe x.Person x.Space).Perm (qQg A.pp x.Person x.Space)
      rw [jA6 (by rw [jRu h]; exact hi)]
      exact (List.perm_append_singleton _ _).trans ((h.pe.cons _).trans jA1.symm)
include hpp
omit hp in
theorem qVf {x : GEvent} : ∃ o, ((jW3 N g st air pe x).bind fun y => some (st, air, y.1, y.2)) = some o ∧ qQ7 p g (qJ0 A x) o := by
 unfold jW3 qJ0
 rw [jFj (by omega), bS, jRu h]
 cases jWv x.Person with
 | false => exact ⟨_, rfl, jHh h⟩
 | true =>
  cases jL4 A x.Person with
  | false => exact ⟨_, rfl, jHh h⟩
  | true =>
   refine ⟨_, rfl, ⟨⟨h.b.plan, h.b.now, h.b.hair, h.b.airg⟩, h.st, ?_, h.done⟩, rfl⟩
   show (jTs pe x.Person).Perm (A.pp.filter fun q => !decide (q.1 = x.Person))
   rw [jP6]
   ·exact h.pe.filter _
   ·exact ((h.pe.map _).nodup_iff).2 (qW6 hpp)
omit hpp
include ho
theorem qZ2 {x : GEvent} : ∃ o, ((jW2 N g st air pe x).bind fun y => some (y.1, air, pe, y.2)) = some o ∧ qQ7 p g (qJv p A x) o := by
 have hs := hp.s
 have hm := hp.m
 unfold jW2 qJv
 rw [h.b.plan, jL5 hp hN, bS]
 simp only []
 cases jNe p x.Space with
 | false => exact ⟨_, rfl, jHh h⟩
 | true =>
  simp only [Bool.not_true, cond_false]
  rw [qV3 hp hN h, bS]
  have hmem : ∀ s ∈ jU9 p A (fun y => !decide (y.Kind = 5) && decide (jUz p y.Space x.Space ≤ 1)), jUn p s = true := by
   intro s hs
   unfold jU9 at hs
   obtain ⟨y, hy, rfl⟩ := List.mem_map.1 hs
   exact jD2.2 ⟨y, (List.mem_filter.1 hy).1, rfl⟩
  have hlen : (jU9 p A (fun y => !decide (y.Kind = 5) && decide (jUz p y.Space x.Space ≤ 1))).length ≤ p.Permits.length := by
   unfold jU9; rw [List.length_map]; exact List.length_filter_le _ _
  have hin : ∀ s, jUn p s = true → inL (jU9 p A (fun y => !decide (y.Kind = 5) && decide (jUz p y.Space x.Space ≤ 1))) s = (jUn p s && decide (stA A s = 2) && (!decide ((atP p s).Kind = 5) && decide (jUz p (atP p s).Space x.Space ≤ 1))) := by
   intro s hs
   rw [hs, Bool.true_and, Bool.eq_iff_iff, qY3]
   unfold jU9
   rw [List.mem_map]
   constructor
   ·rintro ⟨y, hy, rfl⟩
    obtain ⟨hy1, hy2⟩ := List.mem_filter.1 hy
    rw [ho.atP_at hy1]; exact hy2
   ·intro hb
    obtain ⟨h1, h2⟩ := jD5 hs
    refine ⟨atP p s, List.mem_filter.2 ⟨h1, ?_⟩, h2⟩
    rw [h2]; exact hb
  generalize jU9 p A (fun y => !decide (y.Kind = 5) && decide (jUz p y.Space x.Space ≤ 1)) = L at hmem hlen hin
  have key : ∃ st', jXm (jZc N g air pe L) N (0, st) = some st' ∧ RSt p (fun n => bif inL L n then ({ A.es n with state := 3 } : jJj) else A.es n) st' := by
   refine jMv (N := N) (n := L.length) (f := jZc N g air pe L) (s0 := (0, st)) (fun i s => s.1 = (i : Int) ∧ RSt p (fun n => bif inL (L.take i) n then ({ A.es n with state := 3 } : jJj) else A.es n) s.2) (fun st' => RSt p (fun n => bif inL L n then ({ A.es n with state := 3 } : jJj) else A.es n) st') ⟨rfl, h.st.congr fun s _ => by unfold inL; simp⟩ (fun i s hi hs => ?_) (fun s hs => ?_) (by omega)
   ·obtain ⟨s1, st'⟩ := s
    obtain ⟨rfl, hr⟩ := hs
    simp only [] at hr
    have hn := hmem _ (List.getElem_mem hi)
    refine ⟨_, by unfold jZc jQu; simp only []; rw [jQq, dT (by omega), cond_true, jVw hi, bS, bS, jDj (by omega)], rfl, ?_⟩
    refine (hr.set hn _).congr fun s hs => ?_
    simp only []
    rw [hr.get _ hn]
    have htk : inL (L.take (i + 1)) s = (inL (L.take i) s || decide (s = L[i])) := by
     unfold inL; rw [List.take_succ_eq_append_getElem hi, List.any_append]; simp
    rw [htk]
    by_cases he : s = L[i]
    ·subst he
     rw [dT rfl, Bool.or_true, cond_true, cond_true]
     cases inL (L.take i) L[i] <;> rfl
    ·rw [dF he, Bool.or_false]; rfl
   ·obtain ⟨s1, st'⟩ := s
    obtain ⟨rfl, hr⟩ := hs
    refine ⟨st', ?_, ?_⟩
    ·unfold jZc
     simp only []
     rw [jQq, dF (by omega), cond_false]
    ·rw [List.take_length] at hr; exact hr
  obtain ⟨st', h1, h2⟩ := key
  rw [h1]
  refine ⟨_, rfl, ⟨⟨h.b.plan, h.b.now, h.b.hair, h.b.airg⟩, h2.congr fun s hs => ?_, h.pe, h.done⟩, rfl⟩
  show _ = (bif jUn p s && decide (stA A s = 2) && (!decide ((atP p s).Kind = 5) && decide (jUz p (atP p s).Space x.Space ≤ 1)) then ({ A.es s with state := 3 } : jJj) else A.es s)
  rw [hin s hs]
end
end Go.KB
namespace Go.KB
set_option linter.unusedVariables false
instance : Inhabited jJb := ⟨⟨[], [], [], none⟩⟩
def qJr : List jJb := (jUt 0).getD []
theorem qV1 {N : Nat} : jUt N = some qJr := rfl
def jHa (op : Int) : jJb := qJr[op.toNat]!
theorem jSa {op : Int} (h0 : 0 ≤ op) (h12 : op < 12) : op = 0 ∨ op = 1 ∨ op = 2 ∨ op = 3 ∨ op = 4 ∨ op = 5 ∨ op = 6 ∨ op = 7 ∨ op = 8 ∨ op = 9 ∨ op = 10 ∨ op = 11 := by omega
theorem qWa {op : Int} (h0 : 0 ≤ op) (h12 : op < 12) : idx qJr op = some (jHa op) := by
 rcases jSa h0 h12 with h | h | h | h | h | h | h | h | h | h | h | h <;> subst h <;> rfl
theorem jC6 {op : Int} (h0 : 0 ≤ op) (h12 : op < 12) : (jHa op).states = (jL1 op).getD [] := by
 rcases jSa h0 h12 with h | h | h | h | h | h | h | h | h | h | h | h <;> subst h <;> rfl
theorem qXp {op : Int} {l : List Int} (h : jL1 op = some l) : l.isEmpty = false ∧ l.length < 100 := by
 unfold jL1 at h
 repeat' split at h
 all_goals first | (cases h; exact ⟨rfl, by decide⟩) | cases h
section
variable {N : Nat} {p : GPermitPlan} {A : AO} {g : jJq} {st : List (Str × jJj)} {air : List (Str × jJz)} {pe : List (Str × Str)} (hp : SmP p) (ho : OkP p) (hN : 1000000 ≤ N) (h : RelA p A g st air pe) (b : BdA A) (hpp : A.pp.Pairwise (fun a b => a.1 < b.1))
include hp hN h b hpp ho
theorem qWj {x : GEvent} (h0 : 0 ≤ x.Op) (h12 : x.Op < 12) (hh : jL1 x.Op ≠ none → jUn p x.Name = true) : ∃ o, jL9 N g st air pe (jHa x.Op).do_ x = some o ∧ qQ7 p g (qZw p A x) o := by
  unfold jL9 qZw
  rcases jSa h0 h12 with e | e | e | e | e | e | e | e | e | e | e | e
  · have hd : (jHa x.Op).do_ = some 125 := by rw [e]; rfl
    rw [hd]; simp only [e, Option.some.injEq, Nat.reduceEqDiff, decide_false, decide_true, cond_false, cond_true, if_false, Int.reduceEq]
    exact ⟨_, rfl, h, rfl⟩
  · have hd : (jHa x.Op).do_ = some 126 := by rw [e]; rfl
    have hx := hh (by rw [e]; decide)
    rw [hd]; simp only [e, Option.some.injEq, Nat.reduceEqDiff, decide_false, decide_true, cond_false, cond_true, if_false, Int.reduceEq]
    exact jAq hN h hx
  · have hd : (jHa x.Op).do_ = some 127 := by rw [e]; rfl
    have hx := hh (by rw [e]; decide)
    rw [hd]; simp only [e, Option.some.injEq, Nat.reduceEqDiff, decide_false, decide_true, cond_false, cond_true, if_false, Int.reduceEq]
    exact jT3 hp ho hN h b hpp hx
  · have hd : (jHa x.Op).do_ = some 128 := by rw [e]; rfl
    have hx := hh (by rw [e]; decide)
    rw [hd]; simp only [e, Option.some.injEq, Nat.reduceEqDiff, decide_false, decide_true, cond_false, cond_true, if_false, Int.reduceEq]
    exact jSd h hx
  · have hd : (jHa x.Op).do_ = some 127 := by rw [e]; rfl
    have hx := hh (by rw [e]; decide)
    rw [hd]; simp only [e, Option.some.injEq, Nat.reduceEqDiff, decide_false, decide_true, cond_false, cond_true, if_false, Int.reduceEq]
    exact jT3 hp ho hN h b hpp hx
  · have hd : (jHa x.Op).do_ = some 129 := by rw [e]; rfl
    have hx := hh (by rw [e]; decide)
    rw [hd]; simp only [e, Option.some.injEq, Nat.reduceEqDiff, decide_false, decide_true, cond_false, cond_true, if_false, Int.reduceEq]
    exact qQh hp hN h b hpp hx
  · have hd : (jHa x.Op).do_ = some 130 := by rw [e]; rfl
    have hx := hh (by rw [e]; decide)
    rw [hd]; simp only [e, Option.some.injEq, Nat.reduceEqDiff, decide_false, decide_true, cond_false, cond_true, if_false, Int.reduceEq]
    exact jSd h hx
  · have hd : (jHa x.Op).do_ = some 131 := by rw [e]; rfl
    rw [hd]; simp only [e, Option.some.injEq, Nat.reduceEqDiff, decide_false, decide_true, cond_false, cond_true, if_false, Int.reduceEq]
    exact qK7 hp hN h
  · have hd : (jHa x.Op).do_ = some 132 := by rw [e]; rfl
    rw [hd]; simp only [e, Option.some.injEq, Nat.reduceEqDiff, decide_false, decide_true, cond_false, cond_true, if_false, Int.reduceEq]
    exact qXs hp hN h
  · have hd : (jHa x.Op).do_ = some 133 := by rw [e]; rfl
    rw [hd]; simp only [e, Option.some.injEq, Nat.reduceEqDiff, decide_false, decide_true, cond_false, cond_true, if_false, Int.reduceEq]
    exact qVf hN h hpp
  · have hd : (jHa x.Op).do_ = some 134 := by rw [e]; rfl
    rw [hd]; simp only [e, Option.some.injEq, Nat.reduceEqDiff, decide_false, decide_true, cond_false, cond_true, if_false, Int.reduceEq]
    exact qZ2 hp ho hN h
  · have hd : (jHa x.Op).do_ = some 135 := by rw [e]; rfl
    have hx := hh (by rw [e]; decide)
    rw [hd]; simp only [e, Option.some.injEq, Nat.reduceEqDiff, decide_false, decide_true, cond_false, cond_true, if_false, Int.reduceEq]
    exact qQ5 hN h hx
end
theorem RelA.setNow {p : GPermitPlan} {A : AO} {g : jJq} {st : List (Str × jJj)} {air : List (Str × jJz)} {pe : List (Str × Str)} (h : RelA p A g st air pe) (t : Int) : RelB p { A with now := t } ({ g with now := t } : jJq) air := ⟨h.b.plan, rfl, h.b.hair, h.b.airg⟩
def qQ2 (p : GPermitPlan) (A : AO) (x : GEvent) (G : AO × List Str × Int) : AO × List Str × Int := bif decide (G.2.2 = 0) then (({ jZh p G.1 with done := A.done ++ [x] } : AO), [], 0) else G
theorem qJc {p : GPermitPlan} {A S : AO} {x : GEvent} {e : Int} {l : List Str} (he : e ≠ 0) : qQ2 p A x (jLm S e l) = jLm S e l := by
 unfold qQ2 jLm
 simp only []
 rw [dF he]; rfl
theorem qJ5 {p : GPermitPlan} {A : AO} {x : GEvent} {G : AO × List Str × Int} (he : G.2.2 ≠ 0) : qQ2 p A x G = G := by
 unfold qQ2; rw [dF he]; rfl
theorem qZp {p : GPermitPlan} {A : AO} {x : GEvent} {G : AO × List Str × Int} (he : G.2.2 = 0) : qQ2 p A x G = (({ jZh p G.1 with done := A.done ++ [x] } : AO), [], 0) := by
 unfold qQ2; rw [dT he]; rfl
theorem Do_eq {N : Nat} {p : GPermitPlan} {A : AO} {g : jJq} {st : List (Str × jJj)} {air : List (Str × jJz)} {pe : List (Str × Str)} (hp : SmP p) (ho : OkP p) (hN : 1000000 ≤ N) (h : RelA p A g st air pe) (hi : qK2 p A) (hd : A.done.length < 999999) (x : GEvent) :
    ∃ g' st' air' pe', jVb N g st air pe x = some (g', st', air', pe', (doA p A x).2.1, (doA p A x).2.2) ∧ RelA p (doA p A x).1 g' st' air' pe' := by
  have hlim : lim ≥ 10000000 := by decide
  have hm := hp.m
  obtain ⟨gp, gn, gd⟩ := g
  have hg : p = gp := h.b.plan.symm
  have hgn : gn = A.now := h.b.now
  have hgd : gd = A.done := h.done
  subst hg hgn hgd
  unfold jVb doA
  rw [qV1, bS]
  have hlen : (qJr.length : Int) = 12 := rfl
  rw [hlen, jQq, jB4]
  by_cases hr : x.Op < 0 ∨ 12 ≤ x.Op ∨ x.At < 0 ∨ 1000000 < x.At
  · have hr' : (decide (x.Op < 0) || decide (12 ≤ x.Op) || decide (x.At < 0) || decide (1000000 < x.At)) = true := by simpa [or_assoc] using hr
    rw [hr', cond_true]
    refine ⟨⟨p, A.now, A.done⟩, st, air, pe, ?_, h⟩
    unfold jUg
    rw [jB4, jBn]
    cases hc : (decide (x.Op < 0) || decide (12 ≤ x.Op)) with
    | true => rfl
    | false =>
      simp only [Bool.not_false, cond_true, bS, Bool.false_or]
      have : (decide (0 ≤ x.At) && decide (x.At ≤ 1000000)) = false := by
        rw [Bool.or_eq_false_iff, decide_eq_false_iff_not, decide_eq_false_iff_not] at hc
        rw [Bool.and_eq_false_iff, decide_eq_false_iff_not, decide_eq_false_iff_not]; omega
      rw [this]; rfl
  · have hr' : (decide (x.Op < 0) || decide (12 ≤ x.Op) || decide (x.At < 0) || decide (1000000 < x.At)) = false := by simp; omega
    rw [hr', cond_false]
    have hop : (decide (x.Op < 0) || decide (12 ≤ x.Op)) = false := by simp; omega
    have htm : jUg N x.At = some true := by
      unfold jUg; rw [jB4, jBn, dT (by omega), dT (by omega)]; rfl
    rw [hop, htm]
    simp only [Bool.not_false, cond_true, bS, Bool.not_true, Bool.or_self, cond_false, jQq]
    by_cases hlt : x.At < A.now
    · rw [dT hlt]; exact ⟨⟨p, A.now, A.done⟩, st, air, pe, rfl, h⟩
    rw [dF hlt, cond_false, cond_false]
    have hw0 := hi.w
    have hw : WA p A.done { A with now := x.At } := hw0.le (fun s => .inl rfl) (fun _ => rfl) ⟨by show A.now ≤ x.At; omega, by show x.At ≤ 1000000; omega⟩ hw0.pp (fun s t e => .inl e) hw0.pl
    have hb0 : BdA { A with now := x.At } := hw.bd (by omega)
    obtain ⟨st1, e1, r1⟩ := jP1 (pe := pe) hp ho hN (h.setNow x.At) h.st hb0
    rw [e1, bS, qWa (by omega) (by omega), bS, jC6 (by omega) (by omega)]
    have hS : RelA p (jZh p { A with now := x.At }) (⟨p, x.At, A.done⟩ : jJq) st1 air pe := ⟨⟨rfl, rfl, h.b.hair, h.b.airg⟩, r1, h.pe, h.done⟩
    have hbS : BdA (jZh p { A with now := x.At }) := hb0.settle
    have hiS : qK2 p (jZh p { A with now := x.At }) := jLg ho hw
    have hact : ∀ (G : AO × List Str × Int), (∃ o, jL9 N (⟨p, x.At, A.done⟩ : jJq) st1 air pe (jHa x.Op).do_ x = some o ∧ qQ7 p (⟨p, x.At, A.done⟩ : jJq) G o) → StepA p (jZh p { A with now := x.At }) x G → ∃ g' st' air' pe', ((jL9 N (⟨p, x.At, A.done⟩ : jJq) st1 air pe (jHa x.Op).do_ x).bind fun v14 => bif (jJy .neq v14.2.2.2.e 0) then (some ((⟨p, x.At, A.done⟩ : jJq), v14.1, v14.2.1, v14.2.2.1, v14.2.2.2.names, v14.2.2.2.e)) else ((jZr N (⟨p, x.At, A.done⟩ : jJq) v14.1 v14.2.1 v14.2.2.1).bind fun v15 => (app A.done [x]).bind fun v16 => some ((⟨p, x.At, v16⟩ : jJq), v15, v14.2.1, v14.2.2.1, ([] : List Str), (0 : Int)))) = some (g', st', air', pe', (qQ2 p A x G).2.1, (qQ2 p A x G).2.2) ∧ RelA p (qQ2 p A x G).1 g' st' air' pe' := by
      rintro G ⟨⟨a1, a2, a3, a4⟩, ho1, ho2⟩ hstep
      rw [ho1, bS]
      have hrel := ho2.rel
      have href : a4 = ⟨G.2.1, G.2.2⟩ := ho2.ref
      simp only [] at hrel
      subst href
      simp only [jDd]
      by_cases h0 : G.2.2 = 0
      · rw [dT h0, qZp h0]
        simp only [Bool.not_true, cond_false]
        have hw2 := hstep.2.1 _ hiS.w
        have hdn : (jZh p { A with now := x.At }).done = A.done := rfl
        have hb2 : BdA G.1 := hw2.bd (by rw [List.length_append, hdn]; simp only [List.length_singleton]; omega)
        obtain ⟨st2, e2, r2⟩ := jP1 (pe := a3) hp ho hN hrel.b hrel.st hb2
        rw [e2, bS, qQ9 (by simp only [List.length_singleton]; omega), bS]
        exact ⟨_, _, _, _, rfl, ⟨hrel.b.plan, hrel.b.now, hrel.b.hair, hrel.b.airg⟩, r2, hrel.pe, rfl⟩
      · rw [dF h0, qJ5 h0]
        exact ⟨_, _, _, _, rfl, hrel⟩
    have hdeed := fun hh => qWj hp ho hN hS hbS hiS.w.pp (x := x) (by omega) (by omega) hh
    have hstep := jSe ho (A := jZh p { A with now := x.At }) (x := x) (by omega) (by omega)
    show ∃ g' st' air' pe', _ = some (g', st', air', pe', (qQ2 p A x (qVn p (jZh p { A with now := x.At }) x)).2.1, (qQ2 p A x (qVn p (jZh p { A with now := x.At }) x)).2.2) ∧ RelA p (qQ2 p A x (qVn p (jZh p { A with now := x.At }) x)).1 g' st' air' pe'
    unfold qVn at hstep ⊢
    cases hs : jL1 x.Op with
    | none =>
      rw [hs] at hstep
      simp only [Option.getD_none, List.isEmpty_nil, Bool.not_true, cond_false, bS, Sum.elim_inl]
      exact hact _ (hdeed fun hn => absurd hs hn) hstep
    | some l =>
      rw [hs] at hstep
      obtain ⟨hl1, hl2⟩ := qXp hs
      simp only [Option.getD_some, hl1, Bool.not_false, cond_true] at hstep ⊢
      rw [jCf hp hN, bS]
      simp only []
      cases hh : jUn p x.Name with
      | false => simp only [Bool.not_false, cond_true]; rw [qJc (by decide)]; exact ⟨_, _, _, _, rfl, hS⟩
      | true =>
        rw [hh] at hstep
        simp only [Bool.not_true, cond_false] at hstep ⊢
        rw [jPq hN r1 hh hl2, bS]
        cases hc : l.contains (stA (jZh p { A with now := x.At }) x.Name) with
        | false => simp only [Bool.not_false, cond_true]; rw [qJc (by decide)]; exact ⟨_, _, _, _, rfl, hS⟩
        | true =>
          rw [hc] at hstep
          simp only [Bool.not_true, cond_false, bS, Sum.elim_inl] at hstep ⊢
          exact hact _ (hdeed fun _ => hh) hstep
end Go.KB
namespace Go.KB
set_option linter.unusedVariables false
theorem fit_eq {N : Nat} (p : GPermitPlan) (hN : 1000000 ≤ N) : jHf N p = some false ∨ (jHf N p = some true ∧ SmP p ∧ jGe p = 0 ∧ p.Spaces.length ≤ 8 ∧ p.Permits.length ≤ 8 ∧ p.Exclusions.length ≤ 12) := by
 unfold jHf
 rcases qWg p hN with hg | ⟨hg, hp, _⟩
 ·rw [hg]; exact .inl rfl
 ·rw [hg, bS, Bool.not_false, cond_true, jS3 hp hN, bS, Bool.true_and]
  simp only [jU2, jBn]
  by_cases h : jGe p = 0 ∧ p.Spaces.length ≤ 8 ∧ p.Permits.length ≤ 8 ∧ p.Exclusions.length ≤ 12
  ·refine .inr ⟨?_, hp, h⟩
   rw [dT h.1, dT (by omega), dT (by omega), dT (by omega)]; rfl
  ·refine .inl ?_
   congr 1
   rw [Bool.eq_false_iff]
   intro hx
   simp only [Bool.and_eq_true, decide_eq_true_eq] at hx
   exact h (by omega)
def jNl {α : Type} (n k : Nat) (f g : Nat → α) : List α := (List.range n).map fun j => if j < k then f j else g j
theorem jS7 {α : Type} {n k : Nat} {f g : Nat → α} : (jNl n k f g).length = n := by unfold jNl; simp
theorem jS4 {α : Type} {n k i : Nat} {f g : Nat → α} (h : i < (jNl n k f g).length) : (jNl n k f g)[i] = if i < k then f i else g i := by simp [jNl]
theorem qWk {α : Type} {n k : Nat} {f g : Nat → α} (h : k < n) : idx (jNl n k f g) (k : Int) = some (g k) := by
 rw [jVw (by rw [jS7]; exact h), jS4, if_neg (by omega)]
theorem qVc {α : Type} {n k : Nat} {f g : Nat → α} (h : k < n) : (jNl n k f g).set k (f k) = jNl n (k + 1) f g := by
 refine List.ext_getElem (by rw [List.length_set, jS7, jS7]) fun i h1 h2 => ?_
 rw [List.getElem_set, jS4, jS4]
 by_cases e : k = i
 ·subst e; rw [if_pos rfl, if_pos (by omega)]
 ·rw [if_neg e]
  by_cases l : i < k
  ·rw [if_pos l, if_pos (by omega)]
  ·rw [if_neg l, if_neg (by omega)]
theorem jM0 {α : Type} {n : Nat} {f g : Nat → α} : jNl n 0 f g = (List.range n).map g := by unfold jNl; simp
theorem qWe {α : Type} {n : Nat} {f g : Nat → α} : jNl n n f g = (List.range n).map f := by
 unfold jNl
 refine List.map_congr_left fun j hj => ?_
 rw [List.mem_range] at hj
 rw [if_pos hj]
section
variable {N : Nat} {p : GPermitPlan} {A : AO} {g : jJq} {st : List (Str × jJj)} {air : List (Str × jJz)} {pe : List (Str × Str)}
theorem qW5 (h : RelA p A g st air pe) {n : Str} : jWe N g st air pe n = some (bif jUn p n then (stA A n, 0) else (0, 6)) := by
 unfold jWe
 rw [h.st.has]
 cases hh : jUn p n with
 | false => rfl
 | true => rw [h.st.get _ hh]; rfl
theorem Now_eq (h : RelA p A g st air pe) : jWh N g st air pe = some A.now := by
 unfold jWh; rw [h.b.now]
end
theorem do_done {p : GPermitPlan} (ho : OkP p) {A : AO} {x : GEvent} : (doA p A x).1.done.length ≤ A.done.length + 1 := by
  unfold doA
  by_cases hr : x.Op < 0 ∨ 12 ≤ x.Op ∨ x.At < 0 ∨ 1000000 < x.At
  · have hr' : (decide (x.Op < 0) || decide (12 ≤ x.Op) || decide (x.At < 0) || decide (1000000 < x.At)) = true := by simpa [or_assoc] using hr
    rw [hr']; exact Nat.le_succ _
  · have hr' : (decide (x.Op < 0) || decide (12 ≤ x.Op) || decide (x.At < 0) || decide (1000000 < x.At)) = false := by simp; omega
    rw [hr', cond_false]
    cases decide (x.At < A.now) with
    | true => exact Nat.le_succ _
    | false =>
      obtain ⟨_, _, _, s4, _⟩ := jSe ho (A := jZh p { A with now := x.At }) (x := x) (by omega) (by omega)
      show (qQ2 p A x (qVn p (jZh p { A with now := x.At }) x)).1.done.length ≤ _
      by_cases h0 : (qVn p (jZh p { A with now := x.At }) x).2.2 = 0
      · rw [qZp h0]; show (A.done ++ [x]).length ≤ _; simp
      · rw [qJ5 h0, s4]; exact Nat.le_succ _
structure RunI (p : GPermitPlan) (i : Nat) (A : AO) (g : jJq) (st : List (Str × jJj)) (air : List (Str × jJz)) (pe : List (Str × Str)) : Prop where
 rel : RelA p A g st air pe
 inv : qK2 p A
 len : A.done.length ≤ i
theorem RunI.bd {p : GPermitPlan} {i : Nat} {A : AO} {g : jJq} {st : List (Str × jJj)} {air : List (Str × jJz)} {pe : List (Str × Str)} (h : RunI p i A g st air pe) (hi : i < 1000000) : BdA A := h.inv.w.bd (Nat.lt_of_le_of_lt h.len hi)
theorem qY5 {N : Nat} {p : GPermitPlan} (hp : SmP p) (ho : jGe p = 0) (hN : 1000000 ≤ N) : ∃ st, jKs N p = some (some ((⟨p, 0, []⟩ : jJq), st, [], []), 0) ∧ RunI p 0 (qVu p) (⟨p, 0, []⟩ : jJq) st [] [] := by
 obtain ⟨st, h1, h2⟩ := New_eq hp ho hN
 exact ⟨st, h1, h2, qY1 (okP ho), Nat.le_refl _⟩
theorem run_do {N : Nat} {p : GPermitPlan} {i : Nat} {A : AO} {g : jJq} {st : List (Str × jJj)} {air : List (Str × jJz)} {pe : List (Str × Str)} (hp : SmP p) (ho : OkP p) (hN : 1000000 ≤ N) (h : RunI p i A g st air pe) (hi : i < 1000) (x : GEvent) :
  ∃ g' st' air' pe', jVb N g st air pe x = some (g', st', air', pe', (doA p A x).2.1, (doA p A x).2.2) ∧ RunI p (i + 1) (doA p A x).1 g' st' air' pe' := by
 have hl := h.len
 obtain ⟨g', st', air', pe', h1, h2⟩ := Do_eq hp ho hN h.rel h.inv (by omega) x
 exact ⟨g', st', air', pe', h1, h2, (qYx ho h.inv).1, Nat.le_trans (do_done ho) (by omega)⟩
end Go.KB
