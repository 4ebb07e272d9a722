/- Plain laws of chapter 7: why a permit is not opened. Plain laws of chapter 7: the people in the spaces, in the order of their names. Plain laws of chapter 7: what the program's office does. Plain laws of chapter 7: each event in the program's office. Plain laws of chapter 7: the program's office does what the office by names does. Plain laws of chapter 7: what the statements share. No condition. -/
import Derived.Test.YtekbfkfjhgfieaaGreatPZn
import Derived.Test.YtekbfkfjhgfieaaGreatPAwk
namespace Go.KB
set_option linter.unusedVariables false
def qKk {S R : Type} (Y : S → R → Option (S × Bool)) : List R → S → Option S
 | [], s => some s
 | r :: l, s => (Y s r).bind fun v => bif v.2 then qKk Y l v.1 else some v.1
theorem yloop {S : Type} {N : Nat} {Y : S → jJ9 → Option (S × Bool)} {l : List jJ9} {s : S} (hl : l.length < 1000) (hN : 1000000 ≤ N) : ((jXh (jQe N Y l) N (0, s)).bind fun o15 => Sum.elim (fun l17 => some l17) (fun r18 => some r18) o15) = qKk Y (l.filter fun r => !r.Names.isEmpty) s := by
 have key : ∀ k i s, i + k = l.length → ∀ M, k < M → ((jXh (jQe N Y l) M ((i : Int), s)).bind fun o15 => Sum.elim (fun l17 => some l17) (fun r18 => some r18) o15) = qKk Y ((l.drop i).filter fun r => !r.Names.isEmpty) s := by
  intro k
  induction k with
  | zero =>
   intro i s hi M hM
   obtain ⟨M, rfl⟩ : ∃ m, M = m + 1 := ⟨M - 1, by omega⟩
   have : i = l.length := by omega
   subst this
   have e : jQe N Y l ((l.length : Int), s) = some (.inr (Sum.inl s)) := by
    unfold jQe
    simp only []
    rw [jQq, dF (by omega), cond_false]
   simp only [jXh, e, List.drop_length]; rfl
  | succ k ih =>
   intro i s hi M hM
   obtain ⟨M, rfl⟩ : ∃ m, M = m + 1 := ⟨M - 1, by omega⟩
   have hil : i < l.length := by omega
   have e : jQe N Y l ((i : Int), s) = bif !l[i].Names.isEmpty then (Y s l[i]).bind (fun v => bif v.2 then some (.inl (((i + 1 : Nat) : Int), v.1)) else some (.inr (.inr v.1))) else some (.inl (((i + 1 : Nat) : Int), s)) := by
    unfold jQe
    simp only []
    rw [jQq, dT (by omega), cond_true, jVw hil, bS, gt0, jDb (by omega)]
    cases l[i].Names.isEmpty with
    | true => rfl
    | false =>
     simp only [Bool.not_false, cond_true, Bool.true_and]
     congr 1
     funext v
     cases v.2 <;> rfl
   simp only [jXh, e]
   rw [drop_at hil, List.filter_cons]
   cases hn : l[i].Names.isEmpty with
   | true => simp only [Bool.not_true, cond_false]; exact ih (i + 1) s (by omega) M (by omega)
   | false =>
    simp only [Bool.not_false, cond_true, if_true, qKk]
    cases hy : Y s l[i] with
    | none => rfl
    | some v =>
     simp only [bS]
     cases hv : v.2 with
     | false => rfl
     | true => simp only [cond_true]; exact ih (i + 1) v.1 (by omega) M (by omega)
 simpa using key l.length 0 s (by omega) N (by omega)
theorem jMe {p : GPermitPlan} {A : AO} {N : Nat} {f : (List Str × Int) → Option ((List Str × Int) ⊕ List Str)} {so : jJu → Bool} (hp : SmP p) (hN : 1000000 ≤ N) (hf : ∀ (i : Nat) (hi : i < p.Permits.length) (acc : List Str), acc.length < 1000000 → f (acc, (i : Int)) = bif decide (stA A p.Permits[i].Name = 2) && so p.Permits[i] then ((app acc [p.Permits[i].Name]).bind fun v => some (.inl (v, ((i + 1 : Nat) : Int)))) else some (.inl (acc, ((i + 1 : Nat) : Int)))) (he : ∀ acc, f (acc, (p.Permits.length : Int)) = some (.inr acc)) : jXh f N ([], 0) = some (jY4 p A so) := by
 have hm := hp.m
 have hlim : lim ≥ 10000000 := by decide
 rw [qVe (f := f) p.Permits [] (fun x => decide (stA A x.Name = 2) && so x) (fun x => x.Name) (fun a i => (a, i)) (fun a => a) (fun i hi acc hacc => ?_) he (by omega)]
 ·rfl
 ·simp only [List.length_nil] at hacc
  rw [hf i hi acc (by omega)]
  cases (decide (stA A p.Permits[i].Name = 2) && so p.Permits[i]) with
  | false => rfl
  | true => simp only [cond_true]; rw [qQ6 (by simp only [List.length_singleton]; omega)]; rfl
section
variable {N : Nat} {p : GPermitPlan} {A : AO} {g : jJq} {st : List (Str × jJj)} {air : List (Str × jJz)} {pe : List (Str × Str)} (hp : SmP p) (ho : OkP p) (hN : 1000000 ≤ N) (h : RelA p A g st air pe) (b : BdA A)
include hp hN h
theorem qY4 {x : jJu} : jX3 N g st air pe x = some (jY4 p A fun y => jBv p y x) := by
 have hm := hp.m
 unfold jX3
 rw [jMe (f := jQ0 N g st air pe x) (A := A) (so := fun y => jBv p y x) hp hN (fun i hi acc hacc => ?_) (fun acc => ?_)]
 ·rfl
 ·unfold jQ0
  simp only []
  rw [h.b.plan, jQq, dT (by omega), cond_true, jVw hi, bS, jP5 hN h.st (jNt hi) (by decide), bS, jDb (by omega)]
  have hc : ([2] : List Int).contains (stA A p.Permits[i].Name) = decide (stA A p.Permits[i].Name = 2) := by rw [Bool.eq_iff_iff]; simp
  have hq : jVk N g st air pe p.Permits[i] x = some (jBv p p.Permits[i] x) := by
   unfold jVk
   rw [h.b.plan, jA0 hp hN]; rfl
  rw [hc, hq]
  cases decide (stA A p.Permits[i].Name = 2) with
  | false => rfl
  | true => rfl
 ·unfold jQ0
  simp only []
  rw [h.b.plan, jQq, dF (by omega), cond_false]
end
end Go.KB
namespace Go.KB
set_option linter.unusedVariables false
theorem qZd (a b c : Str) (h1 : a ≤ b) (h2 : b ≤ c) : a ≤ c := List.le_trans h1 h2
theorem qVa (a b : Str) : a ≤ b ∨ b ≤ a := List.le_total a b
theorem jCn (a b : Str) (h1 : a ≤ b) (h2 : b ≤ a) : a = b := Std.Antisymm.antisymm (r := (· ≤ ·)) a b h1 h2
theorem slt_le {a b : Str} (h : a < b) : a ≤ b := List.le_of_lt h
theorem jCz {l m : List Str} (hp : l.Perm m) (hs : m.Pairwise (fun a b => a < b)) : jMm l = m := by
 unfold jMm
 refine List.Perm.eq_of_pairwise (le := fun a b : Str => a ≤ b) (fun a b _ _ h1 h2 => jCn a b h1 h2) ?_ (hs.imp fun h => slt_le h) ((List.mergeSort_perm _ _).trans hp)
 have := List.pairwise_mergeSort (le := fun x y : Str => decide (x ≤ y)) (fun a b c h1 h2 => decide_eq_true (qZd a b c (of_decide_eq_true h1) (of_decide_eq_true h2))) (fun a b => by
  rcases qVa a b with h | h <;> simp [h]) l
 exact this.imp fun h => of_decide_eq_true h
theorem qZp {f : List Str → (Str × Str) → Option (List Str)} {so : Str → Bool} (π : List (Str × Str)) (hf : ∀ acc q, q ∈ π → acc.length < 1000000 → f acc q = some (bif so q.2 then acc ++ [q.1] else acc)) : ∀ acc, acc.length + π.length < 1000000 → qXb f π acc = some (acc ++ (π.filter fun q => so q.2).map fun q => q.1) := by
 induction π with
 | nil => intro acc _; simp [qXb]
 | cons q r ih =>
  intro acc h
  simp only [List.length_cons] at h
  unfold qXb
  rw [hf acc q List.mem_cons_self (by omega), bS, ih (fun acc q hq => hf acc q (List.mem_cons_of_mem _ hq)) _ (by cases so q.2 <;> simp <;> omega), List.filter_cons]
  cases so q.2 <;> simp
theorem qJf {A : AO} {pe : List (Str × Str)} {f : List Str → (Str × Str) → Option (List Str)} {so : Str → Bool} (hpe : pe.Perm A.pp) (hpp : A.pp.Pairwise (fun a b => a.1 < b.1)) (hl : A.pp.length < 1000000) (hf : ∀ acc q, q ∈ pe → acc.length < 1000000 → f acc q = some (bif so q.2 then acc ++ [q.1] else acc)) :
    (jP1 pe fun q => (qXb f q []).bind fun s => (qX2 s).bind fun v => some v) = some (jMd A so) := by
  refine qV7 fun π hπ => ?_
  have hp : π.Perm A.pp := hπ.trans hpe
  have hlen : π.length = A.pp.length := hp.length_eq
  rw [qZp (so := so) π (fun acc q hq h => hf acc q (hπ.mem_iff.1 hq) h) [] (by simp; omega), bS, List.nil_append]
  have hs : qX2 ((π.filter fun q => so q.2).map fun q => q.1) = some (jMd A so) := by
    unfold qX2
    have h1 : ((π.filter fun q => so q.2).map fun q => q.1).length ≤ 1000000 := by
      rw [List.length_map]; have := List.length_filter_le (fun q : Str × Str => so q.2) π; omega
    rw [Nat.ble_eq_true_of_le h1, cond_true]
    congr 1
    refine jCz ((hp.filter _).map _) ?_
    unfold jMd
    rw [List.pairwise_map]
    exact List.Pairwise.filter _ hpp
  rw [hs]; rfl
end Go.KB
namespace Go.KB
set_option linter.unusedVariables false
theorem ne0 {α : Type} {l : List α} : jJy .eql (List.length l : Int) 0 = l.isEmpty := by
 rw [jUt]
 cases l with
 | nil => rfl
 | cons x r => simp; omega
def outF (R : AO × List Str × Int) (a b : List (Str × jJj)) : List (Str × jJj) × jJk := (bif decide (R.2.2 = 0) then a else b, ⟨R.2.1, R.2.2⟩)
theorem qJn {A : AO} {e : Int} {l : List Str} {a b : List (Str × jJj)} (he : e ≠ 0) : outF (jMj A e l) a b = (b, ⟨l, e⟩) := by
 show ((bif decide (e = 0) then a else b), (⟨l, e⟩ : jJk)) = _
 rw [dF he]; rfl
theorem qXm {l : List jJ9} {g : jJk → jJ9 → Option (jJk × Option Nat)} (hg : ∀ s r, g s r = some (⟨r.Names, r.Err⟩, some 0)) : qKk (yl g 1) l ((⟨[], 0⟩ : jJk), none) = some (match l with | [] => (⟨[], 0⟩, none) | r :: _ => (⟨r.Names, r.Err⟩, some 0)) := by
 cases l with
 | nil => rfl
 | cons r l =>
  unfold qKk yl
  simp only [hg]
  rfl
theorem qZv {p : GPermitPlan} {A : AO} {x : jJu} : ∀ r ∈ qWf p A x, r.Err ≠ 0 := by
 intro r hr
 unfold qWf at hr
 rcases List.mem_append.1 hr with hr | hr
 ·cases hd : decide (A.now < x.From) with
  | false => rw [hd] at hr; cases hr
  | true => rw [hd, cond_true, List.mem_singleton] at hr; subst hr; decide
 ·have hr := (List.mem_filter.1 hr).1
  rcases List.mem_append.1 hr with hr | hr
  ·simp only [List.mem_cons, List.not_mem_nil, or_false] at hr
   rcases hr with rfl | rfl | rfl <;> simp
  ·cases hd : decide (x.Kind = 3) with
   | false => rw [hd] at hr; cases hr
   | true => rw [hd, cond_true, List.mem_singleton] at hr; subst hr; simp
section
variable {N : Nat} {p : GPermitPlan} {A : AO} {g : jJq} {st : List (Str × jJj)} {air : List (Str × jJz)} {pe : List (Str × Str)} (hp : SmP p) (ho : OkP p) (hN : 1000000 ≤ N) (h : RelA p A g st air pe) (b : BdA A) (hpp : A.pp.Pairwise (fun a b => a.1 < b.1))
include hp hN h
theorem jTq {φ : jJu → Option Bool} {so : jJu → Bool} (hφ : ∀ y ∈ p.Permits, φ y = some (so y)) : jXm N g st air pe φ = some (jY4 p A so) := by
 have hm := hp.m
 unfold jXm
 rw [jMe (f := jVd N g st air pe φ) (A := A) (so := so) hp hN (fun i hi acc hacc => ?_) (fun acc => ?_)]
 ·rfl
 ·unfold jVd
  simp only []
  rw [h.b.plan, jQq, dT (by omega), cond_true, jVw hi, bS, jP5 hN h.st (jNt hi) (by decide), bS, jDb (by omega)]
  have hc : ([2] : List Int).contains (stA A p.Permits[i].Name) = decide (stA A p.Permits[i].Name = 2) := by rw [Bool.eq_iff_iff]; simp
  rw [hc, hφ _ (List.getElem_mem hi)]
  cases decide (stA A p.Permits[i].Name = 2) <;> rfl
 ·unfold jVd
  simp only []
  rw [h.b.plan, jQq, dF (by omega), cond_false]
theorem qZn {s : Str} : jWt N g st air pe s = some (jFr p A s) := by
 unfold jWt jFr
 rw [jTq hp hN h (so := fun y => decide (y.Kind = 1) && decide (y.Space = s)) (fun y _ => by unfold jZr; rw [jUt, jUs]), bS, gt0]
include b hpp
omit hp hN in
theorem qQs {φ : Str → Option Bool} {so : Str → Bool} (hφ : ∀ s, φ s = some (so s)) : jZ2 N g st air pe φ = some (jMd A so) := by
 have hlim : lim ≥ 10000000 := by decide
 unfold jZ2
 refine qJf (f := jVr N φ) h.pe hpp b.pl fun acc q _ hacc => ?_
 unfold jVr
 rw [hφ, bS]
 cases so q.2 with
 | false => rfl
 | true => rw [cond_true, cond_true, qQ6 (by simp only [List.length_singleton]; omega)]; rfl
theorem qJq {x : jJu} : jXp N g st air pe x = some (jMd A fun s => decide (jUl p s x.Space ≤ 1)) := by
 have hlim : lim ≥ 10000000 := by decide
 unfold jXp
 refine qJf (f := jXj N g st air x) (so := fun s => decide (jUl p s x.Space ≤ 1)) h.pe hpp b.pl fun acc q _ hacc => ?_
 unfold jXj jV0
 rw [h.b.plan, jPe hp hN, bS, bS, jB9]
 cases decide (jUl p q.2 x.Space ≤ 1) with
 | false => rfl
 | true => rw [cond_true, cond_true, qQ6 (by simp only [List.length_singleton]; omega)]; rfl
include ho
theorem qXt {S : Type} {Y : S → jJ9 → Option (S × Bool)} {y0 : S} {x : jJu} (hx : x ∈ p.Permits) : jZn N Y y0 g st air pe x = qKk Y (qWf p A x) y0 := by
 have hlim : lim ≥ 10000000 := by decide
 unfold jZn qWf
 rw [jQq, h.b.now, jRr hp hN h.st (hp.l _ hx) (fun l hl => (ho.lk _ hx l hl).1), qY4 hp hN h, jSl hp hN h.b b, qJq hp hN h b hpp, jUt]
 simp only [bS]
 have hl : ((bif decide (x.Kind = 3) then ((app [(⟨18, qXu A x⟩ : jJ9), (⟨20, jY4 p A fun y => jBv p y x⟩ : jJ9), (⟨21, jR3 p A x⟩ : jJ9)] [(⟨17, jMd A fun s => decide (jUl p s x.Space ≤ 1)⟩ : jJ9)]).bind fun v6 => some v6) else (some [(⟨18, qXu A x⟩ : jJ9), (⟨20, jY4 p A fun y => jBv p y x⟩ : jJ9), (⟨21, jR3 p A x⟩ : jJ9)])) : Option (List jJ9)) = some ([(⟨18, qXu A x⟩ : jJ9), (⟨20, jY4 p A (fun y => jBv p y x)⟩ : jJ9), (⟨21, jR3 p A x⟩ : jJ9)] ++ (bif decide (x.Kind = 3) then [(⟨17, jMd A (fun s => decide (jUl p s x.Space ≤ 1))⟩ : jJ9)] else [])) := by
  cases decide (x.Kind = 3) with
  | false => rfl
  | true => rw [cond_true, qQ6 (by simp only [List.length_cons, List.length_nil]; omega)]; rfl
 rw [hl]
 simp only [bS]
 have hlen : ([(⟨18, qXu A x⟩ : jJ9), (⟨20, jY4 p A (fun y => jBv p y x)⟩ : jJ9), (⟨21, jR3 p A x⟩ : jJ9)] ++ (bif decide (x.Kind = 3) then [(⟨17, jMd A (fun s => decide (jUl p s x.Space ≤ 1))⟩ : jJ9)] else [])).length < 1000 := by
  cases decide (x.Kind = 3) <;> simp
 simp only [yloop hlen hN]
 cases hd : decide (A.now < x.From) with
 | false => simp only [cond_false, bS, Bool.false_and, List.nil_append]
 | true =>
  simp only [cond_true, Bool.true_and, List.singleton_append, qKk]
  congr 1
  funext v
  cases v.2 <;> rfl
theorem qW1 {x : GEvent} (hh : jUm p x.Name = true) : jV6 N g st air pe x = some (outF (jN0 p A x) (jHd st x.Name { A.es x.Name with state := 2 }) st) := by
 have hm := hp.m
 unfold jV6 jN0
 rw [jFb (by omega), bS, jUs, h.st.get _ hh]
 cases jWb x.Person with
 | false => rfl
 | true =>
  cases decide (x.Person = (A.es x.Name).by_) with
  | true => rfl
  | false =>
   simp only [Bool.not_true, cond_false]
   rw [h.b.plan, jB6 (by omega) hN, bS]
   unfold jY2
   rw [bS]
   show ((jZn N (yl (jX1 N) 1) ((⟨[], 0⟩ : jJk), none) g st air pe (atP p x.Name)).bind _) = _
   rw [qXt hp ho hN h b hpp (jDa hh).1, qXm (g := jX1 N) (fun s r => rfl), bS]
   have hw := qZv (p := p) (A := A) (x := atP p x.Name)
   cases hwy : qWf p A (atP p x.Name) with
   | nil =>
    simp only [jSg]
    unfold jQg
    rw [h.st.get _ hh]; rfl
   | cons r l =>
    have h0 : r.Err ≠ 0 := hw r (by rw [hwy]; exact List.mem_cons_self)
    show (bif decide True then some (st, (⟨r.Names, r.Err⟩ : jJk)) else none) = some (outF (jMj A r.Err r.Names) _ st)
    rw [qJn h0]; rfl
omit ho in
theorem qZ0 {x : GEvent} (hh : jUm p x.Name = true) : jVt N g st air pe x = some (outF (jNl p A x) (jHd st x.Name { A.es x.Name with state := 4 }) st) := by
  have hm := hp.m
  have hs := hp.s
  obtain ⟨hy, hyn⟩ := jDa hh
  have hb : jQg N g st air pe x.Name 4 = some (jHd st x.Name { A.es x.Name with state := 4 }) := by
    unfold jQg; rw [h.st.get _ hh]
  unfold jVt jNl
  rw [h.b.plan, jB6 (by omega) hN, bS]
  show ((jXl N p (atP p x.Name).Space).bind fun v2 => _) = _
  rw [jH9 (by omega) hN, bS]
  simp only []
  have e1 : jXm N g st air pe (fun y0 => jXa N y0 (atP p x.Name)) = some (jY4 p A (fun z => inL z.Locks (atP p x.Name).Name)) := jTq hp hN h fun y hy => by
    unfold jXa; rw [jTv (Nat.lt_trans (hp.l y hy) (by decide)) hN]; rfl
  have e2 : jXm N g st air pe (fun y0 => jX0 N y0 (atP p x.Name)) = some (jY4 p A (fun z => decide (z.Kind = 1) && decide (z.Space = (atP p x.Name).Space) && !decide (z.Name = (atP p x.Name).Name))) := jTq hp hN h fun y hy => by
    unfold jX0; rw [jUt, jUs, qY3]
  have e3 : jZ2 N g st air pe (fun y0 => jXe N y0 (atP p x.Name)) = some (jMd A (fun s => decide (s = (atP p x.Name).Space))) := qQs h b hpp fun s => by
    unfold jXe; rw [jUs]
  have e4 : jQd N g st air pe (atP p x.Name).Name [2] = some (decide (stA A (atP p x.Name).Name = 2)) := by
    rw [jP5 hN h.st (by rw [hyn]; exact hh) (by decide)]
    congr 1; rw [Bool.eq_iff_iff]; simp
  show (((bif jJy .eql (atP p x.Name).Kind 5 then ((jXm N g st air pe (fun y0 => jXa N y0 (atP p x.Name))).bind fun v3 => bif (jJy .gtr (List.length v3 : Int) 0) then ((jZh N 20 v3).bind fun v4 => some (Sum.inr v4)) else (some (Sum.inl (⟨[], 0⟩ : jJk)))) else ((bif jJy .eql (atP p x.Name).Kind 1 then (jQd N g st air pe (atP p x.Name).Name [2]) else some false).bind fun v6 => bif ((jJy .eql (atP p x.Name).Kind 1 && v6) && (atS p (atP p x.Name).Space).Enclosed) then ((jXm N g st air pe (fun y0 => jX0 N y0 (atP p x.Name))).bind fun v7 => (jZ2 N g st air pe (fun y0 => jXe N y0 (atP p x.Name))).bind fun v8 => bif (jJy .eql (List.length v7 : Int) 0 && jJy .gtr (List.length v8 : Int) 0) then ((jZh N 21 v8).bind fun v9 => some (Sum.inr v9)) else (some (Sum.inl (⟨[], 0⟩ : jJk)))) else (some (Sum.inl (⟨[], 0⟩ : jJk))))) : Option (jJk ⊕ jJk)).bind fun o13 => Sum.elim (fun l15 => (jQg N g st air pe x.Name 4).bind fun v17 => some (v17, (⟨[], 0⟩ : jJk))) (fun r16 => some (st, r16)) o13) = _
  rw [e1, e2, e3, e4, hb]
  simp only [bS, gt0, ne0]
  simp only [jUt]
  unfold jZh
  by_cases h5 : (atP p x.Name).Kind = 5
  · rw [dT h5, dF (show ¬ (atP p x.Name).Kind = 1 by omega)]
    simp only [cond_true, Bool.true_and, Bool.false_and, cond_false]
    cases (jY4 p A (fun z => inL z.Locks (atP p x.Name).Name)).isEmpty <;> rfl
  · rw [dF h5]
    simp only [cond_false, Bool.false_and]
    cases decide ((atP p x.Name).Kind = 1) with
    | false => rfl
    | true =>
      simp only [cond_true, Bool.true_and, bS]
      cases decide (stA A (atP p x.Name).Name = 2) with
      | false => rfl
      | true =>
        cases (atS p (atP p x.Name).Space).Enclosed with
        | false => rfl
        | true =>
          simp only [Bool.true_and, cond_true]
          cases (jY4 p A (fun z => decide (z.Kind = 1) && decide (z.Space = (atP p x.Name).Space) && !decide (z.Name = (atP p x.Name).Name))).isEmpty with
          | false => rfl
          | true => cases (jMd A (fun s => decide (s = (atP p x.Name).Space))).isEmpty <;> rfl
end
end Go.KB
namespace Go.KB
set_option linter.unusedVariables false
theorem qQy {α β : Type} [DecidableEq α] {k : α} {y : β} : ∀ {m : List (α × β)}, jKs m k = false → jHd m k y = m ++ [(k, y)]
 | [], _ => rfl
 | q :: r, h => by
  unfold jKs at h
  rw [Bool.or_eq_false_iff] at h
  unfold jHd
  rw [h.1, cond_false, qQy h.2]; rfl
theorem qQz {β : Type} {k : Str} : ∀ {m : List (Str × β)}, jKs m k = m.any fun q => decide (q.1 = k)
  | [] => rfl
  | q :: r => by
    unfold jKs
    rw [List.any_cons, qQz, show decide (k = q.1) = decide (q.1 = k) from decide_eq_decide.2 ⟨Eq.symm, Eq.symm⟩]
theorem qYs {α : Type} {l m : List α} {f : α → Bool} (h : l.Perm m) : l.any f = m.any f := by
 rw [Bool.eq_iff_iff, List.any_eq_true, List.any_eq_true]
 exact ⟨fun ⟨x, a, b⟩ => ⟨x, h.mem_iff.1 a, b⟩, fun ⟨x, a, b⟩ => ⟨x, h.mem_iff.2 a, b⟩⟩
theorem qQw {n s : Str} : ∀ {l : List (Str × Str)}, (qQ8 l n s).Perm ((n, s) :: l)
 | [] => List.Perm.refl _
 | q :: r => by
  unfold qQ8
  cases decide (q.1 < n) with
  | false => exact List.Perm.refl _
  | true => exact (qQw.cons q).trans (List.Perm.swap _ _ _)
theorem jPt {β : Type} {k : Str} : ∀ {m : List (Str × β)}, (m.map fun q => q.1).Nodup → jTc m k = m.filter fun q => !decide (q.1 = k)
  | [], _ => rfl
  | q :: r, h => by
    rw [List.map_cons, List.nodup_cons] at h
    unfold jTc
    rw [List.filter_cons]
    by_cases hk : k = q.1
    · rw [dT hk, dT hk.symm, cond_true]
      simp only [Bool.not_true, Bool.false_eq_true, if_false]
      refine (List.filter_eq_self.2 fun a ha => ?_).symm
      rw [Bool.not_eq_true', decide_eq_false_iff_not]
      intro he
      exact h.1 (List.mem_map.2 ⟨a, ha, he.trans hk⟩)
    · rw [dF hk, dF (fun e => hk e.symm), cond_false, jPt h.2]; rfl
theorem qWs {l : List (Str × Str)} (h : l.Pairwise (fun a b => a.1 < b.1)) : (l.map fun q => q.1).Nodup := by
 unfold List.Nodup
 rw [List.pairwise_map]
 exact h.imp fun {a b} hab he => by
  have hab' : a.1 < b.1 := hab
  rw [he] at hab'
  exact List.lt_irrefl _ hab'
theorem jFd {N : Nat} {p : GPermitPlan} {s : Str} (hp : SmP p) (hN : 1000000 ≤ N) : jXl N p s = some (atS p s, jM3 p s) := by
 have := hp.s
 rw [jH9 (by omega) hN]
 exact congrArg some (Prod.ext rfl jLg)
theorem jT2 {N : Nat} {p : GPermitPlan} {s : Str} (hp : SmP p) (hN : 1000000 ≤ N) : jVg N p s = some (atP p s, jUm p s) := by
 have := hp.m
 rw [jB6 (by omega) hN]
 exact congrArg some (Prod.ext rfl jLg)
structure qX5 (p : GPermitPlan) (g : jJq) (R : AO × List Str × Int) (o : List (Str × jJj) × List (Str × jJz) × List (Str × Str) × jJk) : Prop where
 rel : RelA p R.1 g o.1 o.2.1 o.2.2.1
 ref : o.2.2.2 = ⟨R.2.1, R.2.2⟩
theorem RelA.up {p : GPermitPlan} {A : AO} {g : jJq} {st : List (Str × jJj)} {air : List (Str × jJz)} {pe : List (Str × Str)} (h : RelA p A g st air pe) {n : Str} (hn : jUm p n = true) (e : jJj) : RelA p (upA A n e) g (jHd st n e) air pe :=
 ⟨⟨h.b.plan, h.b.now, h.b.hair, h.b.airg⟩, h.st.set hn e, h.pe, h.done⟩
section
variable {N : Nat} {p : GPermitPlan} {A : AO} {g : jJq} {st : List (Str × jJj)} {air : List (Str × jJz)} {pe : List (Str × Str)} (hp : SmP p) (ho : OkP p) (hN : 1000000 ≤ N) (h : RelA p A g st air pe) (b : BdA A) (hpp : A.pp.Pairwise (fun a b => a.1 < b.1))
theorem jH6 (h : RelA p A g st air pe) {e : Int} {l : List Str} : qX5 p g (jMj A e l) (st, air, pe, ⟨l, e⟩) := ⟨h, rfl⟩
include hN h
theorem jA5 {x : GEvent} (hh : jUm p x.Name = true) : ∃ o, ((jWg N g st air pe x).bind fun y => some (y.1, air, pe, y.2)) = some o ∧ qX5 p g (jPd A x) o := by
 unfold jWg jPd
 rw [jFb (by omega), bS, h.st.get _ hh]
 cases jWb x.Person with
 | false => exact ⟨_, rfl, jH6 h⟩
 | true => exact ⟨_, rfl, h.up hh _, rfl⟩
theorem qXg {x : GEvent} (hh : jUm p x.Name = true) : ∃ o, ((jWp N g st air pe x).bind fun y => some (y.1, air, pe, y.2)) = some o ∧ qX5 p g (jTx A x) o := by
 unfold jWp jTx
 rw [jFb (by omega), bS, h.st.get _ hh, jB9, jGr]
 cases jWb x.Person with
 | false => exact ⟨_, rfl, jH6 h⟩
 | true =>
  cases (decide (x.To ≤ (A.es x.Name).to_) || decide (1000000 < x.To)) with
  | true => exact ⟨_, rfl, jH6 h⟩
  | false => exact ⟨_, rfl, h.up hh _, rfl⟩
omit hN in
theorem jSm {x : GEvent} {k : Int} (hh : jUm p x.Name = true) : ∃ o, (((jQg N g st air pe x.Name k).bind fun v1 => some (v1, (⟨[], 0⟩ : jJk))).bind fun y => some (y.1, air, pe, y.2)) = some o ∧ qX5 p g (jTm (beA A x.Name k)) o := by
 unfold jQg
 rw [h.st.get _ hh]
 exact ⟨_, rfl, h.up hh _, rfl⟩
include hp b hpp ho
theorem jT4 {x : GEvent} (hh : jUm p x.Name = true) : ∃ o, ((jV6 N g st air pe x).bind fun y => some (y.1, air, pe, y.2)) = some o ∧ qX5 p g (jN0 p A x) o := by
 rw [qW1 hp ho hN h b hpp hh]
 refine ⟨_, rfl, ?_, rfl⟩
 simp only []
 unfold jN0
 cases jWb x.Person with
 | false => exact h
 | true =>
  cases decide (x.Person = (A.es x.Name).by_) with
  | true => exact h
  | false =>
   simp only [Bool.not_true, cond_false]
   have hw := qZv (p := p) (A := A) (x := atP p x.Name)
   cases hwy : qWf p A (atP p x.Name) with
   | nil => exact h.up hh _
   | cons r l =>
    have h0 : r.Err ≠ 0 := hw r (by rw [hwy]; exact List.mem_cons_self)
    show RelA p A g (outF (jMj A r.Err r.Names) _ st).1 air pe
    rw [qJn h0]; exact h
omit ho in
theorem qXx {x : GEvent} (hh : jUm p x.Name = true) : ∃ o, ((jVt N g st air pe x).bind fun y => some (y.1, air, pe, y.2)) = some o ∧ qX5 p g (jNl p A x) o := by
 rw [qZ0 hp hN h b hpp hh]
 refine ⟨_, rfl, ?_, rfl⟩
 simp only []
 unfold jNl
 simp only []
 cases (decide ((atP p x.Name).Kind = 5) && !(jY4 p A (fun z => inL z.Locks (atP p x.Name).Name)).isEmpty) with
 | true => exact h
 | false =>
  rw [cond_false]
  cases (decide ((atP p x.Name).Kind = 1) && decide (stA A (atP p x.Name).Name = 2) && (atS p (atP p x.Name).Space).Enclosed && (jY4 p A (fun z => decide (z.Kind = 1) && decide (z.Space = (atP p x.Name).Space) && !decide (z.Name = (atP p x.Name).Name))).isEmpty && !(jMd A (fun s => decide (s = (atP p x.Name).Space))).isEmpty) with
  | true => exact h
  | false => exact h.up hh _
omit ho hpp b
theorem qU5 {x : GEvent} : ∃ o, ((jY7 N g st air pe x).bind fun y => some (st, y.1, pe, y.2)) = some o ∧ qX5 p g (gasA p A x) o := by
 have hs := hp.s
 unfold jY7 gasA
 rw [h.b.plan, jFd hp hN, bS]
 simp only [jQq, jGr]
 cases jM3 p x.Space with
 | false => exact ⟨_, rfl, jH6 h⟩
 | true =>
  simp only [Bool.not_true, cond_false]
  cases (decide (x.Oxygen < 0) || decide (1000 < x.Oxygen) || decide (x.Gas < 0) || decide (1000 < x.Gas)) with
  | true => exact ⟨_, rfl, jH6 h⟩
  | false =>
   refine ⟨_, rfl, ⟨⟨h.b.plan, h.b.now, fun s => ?_, fun s t e => ?_⟩, h.st, h.pe, h.done⟩, rfl⟩
   ·simp only [cond_false, jTm]
    rw [jNk, h.b.hair]
    cases decide (s = x.Space) <;> rfl
   ·simp only [cond_false, jTm] at e ⊢
    rw [jLh]
    by_cases he : s = x.Space
    ·rw [dT he] at e; cases e; rw [if_pos he, h.b.now]
    ·rw [dF he] at e; rw [if_neg he]; exact h.b.airg s t e
theorem qWc {s : Str} : jZy N g st air pe (atS p s) = some (jY4 p A (fun y => decide (y.Kind = 3) && decide (jUl p y.Space (atS p s).Name ≤ 1))) := by
 have hm := hp.m
 unfold jZy
 rw [jMe (f := jXk N g st air pe (atS p s)) (A := A) (so := fun y => decide (y.Kind = 3) && decide (jUl p y.Space (atS p s).Name ≤ 1)) hp hN (fun i hi acc hacc => ?_) (fun acc => ?_)]
 ·rfl
 ·unfold jXk
  simp only []
  rw [h.b.plan, jQq, dT (by omega), cond_true, jVw hi, bS, jP5 hN h.st (jNt hi) (by decide), bS, jDb (by omega)]
  have hc : ([2] : List Int).contains (stA A p.Permits[i].Name) = decide (stA A p.Permits[i].Name = 2) := by rw [Bool.eq_iff_iff]; simp
  have hq : jWf N g st air pe p.Permits[i] (atS p s) = some (decide (p.Permits[i].Kind = 3) && decide (jUl p p.Permits[i].Space (atS p s).Name ≤ 1)) := by
   unfold jWf
   rw [h.b.plan, jPe hp hN, jUt]
   cases decide (p.Permits[i].Kind = 3) with
   | false => rfl
   | true => simp only [cond_true, bS, Bool.true_and, jB9]
  rw [hc, hq]
  cases decide (stA A p.Permits[i].Name = 2) <;> rfl
 ·unfold jXk
  simp only []
  rw [h.b.plan, jQq, dF (by omega), cond_false]
theorem qW4 {x : GEvent} : jZw N g st air pe x = some (jY4 p A (fun y => !decide (y.Kind = 5) && decide (jUl p y.Space x.Space ≤ 1))) := by
 have hm := hp.m
 unfold jZw
 rw [jMe (f := jXv N g st air pe x) (A := A) (so := fun y => !decide (y.Kind = 5) && decide (jUl p y.Space x.Space ≤ 1)) hp hN (fun i hi acc hacc => ?_) (fun acc => ?_)]
 ·rfl
 ·unfold jXv
  simp only []
  rw [h.b.plan, jQq, dT (by omega), cond_true, jVw hi, bS, jP5 hN h.st (jNt hi) (by decide), bS, jDb (by omega)]
  have hc : ([2] : List Int).contains (stA A p.Permits[i].Name) = decide (stA A p.Permits[i].Name = 2) := by rw [Bool.eq_iff_iff]; simp
  have hq : jWh N g st air pe p.Permits[i] x = some (!decide (p.Permits[i].Kind = 5) && decide (jUl p p.Permits[i].Space x.Space ≤ 1)) := by
   unfold jWh
   rw [h.b.plan, jPe hp hN, jH2]
   cases (!decide (p.Permits[i].Kind = 5)) with
   | false => rfl
   | true => simp only [cond_true, bS, Bool.true_and, jB9]
  rw [hc, hq]
  cases decide (stA A p.Permits[i].Name = 2) <;> rfl
 ·unfold jXv
  simp only []
  rw [h.b.plan, jQq, dF (by omega), cond_false]
omit hp hN in
theorem jPp {n : Str} : jKs pe n = jMr A n := by
 rw [qQz, qYs h.pe]; rfl
theorem qZa {x : GEvent} : ∃ o, ((jW9 N g st air pe x).bind fun y => some (st, air, y.1, y.2)) = some o ∧ qX5 p g (qQx p A x) o := by
 have hs := hp.s
 unfold jW9 qQx
 rw [jFb (by omega), bS, h.b.plan]
 cases jWb x.Person with
 | false => exact ⟨_, rfl, jH6 h⟩
 | true =>
  simp only [Bool.not_true, cond_false]
  rw [jFd hp hN, bS]
  simp only []
  cases hh : jM3 p x.Space with
  | false => exact ⟨_, rfl, jH6 h⟩
  | true =>
   have hnm := (qQb hh).2
   simp only [Bool.not_true, cond_false]
   rw [qZn hp hN h, qWc hp hN h, jPp h, hnm]
   cases hi : jMr A x.Person with
   | true => exact ⟨_, rfl, jH6 h⟩
   | false =>
    simp only [cond_false]
    have hx : ((bif (atS p x.Space).Enclosed then (some (jFr p A x.Space)) else some false).bind fun v6 => (some (((atS p x.Space).Enclosed && (!v6))) : Option Bool)) = some ((atS p x.Space).Enclosed && !jFr p A x.Space) := by
     cases (atS p x.Space).Enclosed <;> rfl
    have hx2 : ∀ (F : Bool → Option (List (Str × Str) × jJk)), ((bif (atS p x.Space).Enclosed then (some (jFr p A x.Space)) else some false).bind fun v6 => F ((atS p x.Space).Enclosed && (!v6))) = F ((atS p x.Space).Enclosed && !jFr p A x.Space) := by
     intro F; cases (atS p x.Space).Enclosed <;> rfl
    rw [hx2 (fun c => bif c then _ else _)]
    cases ((atS p x.Space).Enclosed && !jFr p A x.Space) with
    | true => exact ⟨_, rfl, jH6 h⟩
    | false =>
     simp only [cond_false, bS, gt0]
     cases (!(jY4 p A (fun y => decide (y.Kind = 3) && decide (jUl p y.Space x.Space ≤ 1))).isEmpty) with
     | true => exact ⟨_, rfl, jH6 h⟩
     | false =>
      refine ⟨_, rfl, ⟨⟨h.b.plan, h.b.now, h.b.hair, h.b.airg⟩, h.st, ?_, h.done⟩, rfl⟩
      show (jHd pe x.Person x.Space).Perm (qQ8 A.pp x.Person x.Space)
      rw [qQy (by rw [jPp h]; exact hi)]
      exact (List.perm_append_singleton _ _).trans ((h.pe.cons _).trans qQw.symm)
include hpp
omit hp in
theorem qVt {x : GEvent} : ∃ o, ((jW4 N g st air pe x).bind fun y => some (st, air, y.1, y.2)) = some o ∧ qX5 p g (qQh A x) o := by
 unfold jW4 qQh
 rw [jFb (by omega), bS, jPp h]
 cases jWb x.Person with
 | false => exact ⟨_, rfl, jH6 h⟩
 | true =>
  cases jMr A x.Person with
  | false => exact ⟨_, rfl, jH6 h⟩
  | true =>
   refine ⟨_, rfl, ⟨⟨h.b.plan, h.b.now, h.b.hair, h.b.airg⟩, h.st, ?_, h.done⟩, rfl⟩
   show (jTc pe x.Person).Perm (A.pp.filter fun q => !decide (q.1 = x.Person))
   rw [jPt]
   ·exact h.pe.filter _
   ·exact ((h.pe.map _).nodup_iff).2 (qWs hpp)
omit hpp
include ho
theorem qZ9 {x : GEvent} : ∃ o, ((jW7 N g st air pe x).bind fun y => some (y.1, air, pe, y.2)) = some o ∧ qX5 p g (qJb p A x) o := by
 have hs := hp.s
 have hm := hp.m
 unfold jW7 qJb
 rw [h.b.plan, jFd hp hN, bS]
 simp only []
 cases jM3 p x.Space with
 | false => exact ⟨_, rfl, jH6 h⟩
 | true =>
  simp only [Bool.not_true, cond_false]
  rw [qW4 hp hN h, bS]
  have hmem : ∀ s ∈ jY4 p A (fun y => !decide (y.Kind = 5) && decide (jUl p y.Space x.Space ≤ 1)), jUm p s = true := by
   intro s hs
   unfold jY4 at hs
   obtain ⟨y, hy, rfl⟩ := List.mem_map.1 hs
   exact jBq.2 ⟨y, (List.mem_filter.1 hy).1, rfl⟩
  have hlen : (jY4 p A (fun y => !decide (y.Kind = 5) && decide (jUl p y.Space x.Space ≤ 1))).length ≤ p.Permits.length := by
   unfold jY4; rw [List.length_map]; exact List.length_filter_le _ _
  have hin : ∀ s, jUm p s = true → inL (jY4 p A (fun y => !decide (y.Kind = 5) && decide (jUl p y.Space x.Space ≤ 1))) s = (jUm p s && decide (stA A s = 2) && (!decide ((atP p s).Kind = 5) && decide (jUl p (atP p s).Space x.Space ≤ 1))) := by
   intro s hs
   rw [hs, Bool.true_and, Bool.eq_iff_iff, qVh]
   unfold jY4
   rw [List.mem_map]
   constructor
   ·rintro ⟨y, hy, rfl⟩
    obtain ⟨hy1, hy2⟩ := List.mem_filter.1 hy
    rw [ho.atP_at hy1]; exact hy2
   ·intro hb
    obtain ⟨h1, h2⟩ := jDa hs
    refine ⟨atP p s, List.mem_filter.2 ⟨h1, ?_⟩, h2⟩
    rw [h2]; exact hb
  generalize jY4 p A (fun y => !decide (y.Kind = 5) && decide (jUl p y.Space x.Space ≤ 1)) = L at hmem hlen hin
  have key : ∃ st', jXh (jZa N g air pe L) N (0, st) = some st' ∧ RSt p (fun n => bif inL L n then ({ A.es n with state := 3 } : jJj) else A.es n) st' := by
   refine jM5 (N := N) (n := L.length) (f := jZa N g air pe L) (s0 := (0, st)) (fun i s => s.1 = (i : Int) ∧ RSt p (fun n => bif inL (L.take i) n then ({ A.es n with state := 3 } : jJj) else A.es n) s.2) (fun st' => RSt p (fun n => bif inL L n then ({ A.es n with state := 3 } : jJj) else A.es n) st') ⟨rfl, h.st.congr fun s _ => by unfold inL; simp⟩ (fun i s hi hs => ?_) (fun s hs => ?_) (by omega)
   ·obtain ⟨s1, st'⟩ := s
    obtain ⟨rfl, hr⟩ := hs
    simp only [] at hr
    have hn := hmem _ (List.getElem_mem hi)
    refine ⟨_, by unfold jZa jQg; simp only []; rw [jQq, dT (by omega), cond_true, jVw hi, bS, bS, jDb (by omega)], rfl, ?_⟩
    refine (hr.set hn _).congr fun s hs => ?_
    simp only []
    rw [hr.get _ hn]
    have htk : inL (L.take (i + 1)) s = (inL (L.take i) s || decide (s = L[i])) := by
     unfold inL; rw [List.take_succ_eq_append_getElem hi, List.any_append]; simp
    rw [htk]
    by_cases he : s = L[i]
    ·subst he
     rw [dT rfl, Bool.or_true, cond_true, cond_true]
     cases inL (L.take i) L[i] <;> rfl
    ·rw [dF he, Bool.or_false]; rfl
   ·obtain ⟨s1, st'⟩ := s
    obtain ⟨rfl, hr⟩ := hs
    refine ⟨st', ?_, ?_⟩
    ·unfold jZa
     simp only []
     rw [jQq, dF (by omega), cond_false]
    ·rw [List.take_length] at hr; exact hr
  obtain ⟨st', h1, h2⟩ := key
  rw [h1]
  refine ⟨_, rfl, ⟨⟨h.b.plan, h.b.now, h.b.hair, h.b.airg⟩, h2.congr fun s hs => ?_, h.pe, h.done⟩, rfl⟩
  show _ = (bif jUm p s && decide (stA A s = 2) && (!decide ((atP p s).Kind = 5) && decide (jUl p (atP p s).Space x.Space ≤ 1)) then ({ A.es s with state := 3 } : jJj) else A.es s)
  rw [hin s hs]
end
end Go.KB
namespace Go.KB
set_option linter.unusedVariables false
instance : Inhabited jJb := ⟨⟨[], [], [], none⟩⟩
def qJl : List jJb := (jU9 0).getD []
theorem qYk {N : Nat} : jU9 N = some qJl := rfl
def jBw (op : Int) : jJb := qJl[op.toNat]!
theorem jTf {op : Int} (h0 : 0 ≤ op) (h12 : op < 12) : op = 0 ∨ op = 1 ∨ op = 2 ∨ op = 3 ∨ op = 4 ∨ op = 5 ∨ op = 6 ∨ op = 7 ∨ op = 8 ∨ op = 9 ∨ op = 10 ∨ op = 11 := by omega
theorem qW7 {op : Int} (h0 : 0 ≤ op) (h12 : op < 12) : idx qJl op = some (jBw op) := by
 rcases jTf h0 h12 with h | h | h | h | h | h | h | h | h | h | h | h <;> subst h <;> rfl
theorem jAd {op : Int} (h0 : 0 ≤ op) (h12 : op < 12) : (jBw op).states = (jMb op).getD [] := by
 rcases jTf h0 h12 with h | h | h | h | h | h | h | h | h | h | h | h <;> subst h <;> rfl
theorem qZy {op : Int} {l : List Int} (h : jMb op = some l) : l.isEmpty = false ∧ l.length < 100 := by
 unfold jMb at h
 repeat' split at h
 all_goals first | (cases h; exact ⟨rfl, by decide⟩) | cases h
section
variable {N : Nat} {p : GPermitPlan} {A : AO} {g : jJq} {st : List (Str × jJj)} {air : List (Str × jJz)} {pe : List (Str × Str)} (hp : SmP p) (ho : OkP p) (hN : 1000000 ≤ N) (h : RelA p A g st air pe) (b : BdA A) (hpp : A.pp.Pairwise (fun a b => a.1 < b.1))
include hp hN h b hpp ho
theorem qWn {x : GEvent} (h0 : 0 ≤ x.Op) (h12 : x.Op < 12) (hh : jMb x.Op ≠ none → jUm p x.Name = true) : ∃ o, jMx N g st air pe (jBw x.Op).do_ x = some o ∧ qX5 p g (qZ2 p A x) o := by
  unfold jMx qZ2
  rcases jTf h0 h12 with e | e | e | e | e | e | e | e | e | e | e | e
  · have hd : (jBw x.Op).do_ = some 125 := by rw [e]; rfl
    rw [hd]; simp only [e, Option.some.injEq, Nat.reduceEqDiff, decide_false, decide_true, cond_false, cond_true, if_false, Int.reduceEq]
    exact ⟨_, rfl, h, rfl⟩
  · have hd : (jBw x.Op).do_ = some 126 := by rw [e]; rfl
    have hx := hh (by rw [e]; decide)
    rw [hd]; simp only [e, Option.some.injEq, Nat.reduceEqDiff, decide_false, decide_true, cond_false, cond_true, if_false, Int.reduceEq]
    exact jA5 hN h hx
  · have hd : (jBw x.Op).do_ = some 127 := by rw [e]; rfl
    have hx := hh (by rw [e]; decide)
    rw [hd]; simp only [e, Option.some.injEq, Nat.reduceEqDiff, decide_false, decide_true, cond_false, cond_true, if_false, Int.reduceEq]
    exact jT4 hp ho hN h b hpp hx
  · have hd : (jBw x.Op).do_ = some 128 := by rw [e]; rfl
    have hx := hh (by rw [e]; decide)
    rw [hd]; simp only [e, Option.some.injEq, Nat.reduceEqDiff, decide_false, decide_true, cond_false, cond_true, if_false, Int.reduceEq]
    exact jSm h hx
  · have hd : (jBw x.Op).do_ = some 127 := by rw [e]; rfl
    have hx := hh (by rw [e]; decide)
    rw [hd]; simp only [e, Option.some.injEq, Nat.reduceEqDiff, decide_false, decide_true, cond_false, cond_true, if_false, Int.reduceEq]
    exact jT4 hp ho hN h b hpp hx
  · have hd : (jBw x.Op).do_ = some 129 := by rw [e]; rfl
    have hx := hh (by rw [e]; decide)
    rw [hd]; simp only [e, Option.some.injEq, Nat.reduceEqDiff, decide_false, decide_true, cond_false, cond_true, if_false, Int.reduceEq]
    exact qXx hp hN h b hpp hx
  · have hd : (jBw x.Op).do_ = some 130 := by rw [e]; rfl
    have hx := hh (by rw [e]; decide)
    rw [hd]; simp only [e, Option.some.injEq, Nat.reduceEqDiff, decide_false, decide_true, cond_false, cond_true, if_false, Int.reduceEq]
    exact jSm h hx
  · have hd : (jBw x.Op).do_ = some 131 := by rw [e]; rfl
    rw [hd]; simp only [e, Option.some.injEq, Nat.reduceEqDiff, decide_false, decide_true, cond_false, cond_true, if_false, Int.reduceEq]
    exact qU5 hp hN h
  · have hd : (jBw x.Op).do_ = some 132 := by rw [e]; rfl
    rw [hd]; simp only [e, Option.some.injEq, Nat.reduceEqDiff, decide_false, decide_true, cond_false, cond_true, if_false, Int.reduceEq]
    exact qZa hp hN h
  · have hd : (jBw x.Op).do_ = some 133 := by rw [e]; rfl
    rw [hd]; simp only [e, Option.some.injEq, Nat.reduceEqDiff, decide_false, decide_true, cond_false, cond_true, if_false, Int.reduceEq]
    exact qVt hN h hpp
  · have hd : (jBw x.Op).do_ = some 134 := by rw [e]; rfl
    rw [hd]; simp only [e, Option.some.injEq, Nat.reduceEqDiff, decide_false, decide_true, cond_false, cond_true, if_false, Int.reduceEq]
    exact qZ9 hp ho hN h
  · have hd : (jBw x.Op).do_ = some 135 := by rw [e]; rfl
    have hx := hh (by rw [e]; decide)
    rw [hd]; simp only [e, Option.some.injEq, Nat.reduceEqDiff, decide_false, decide_true, cond_false, cond_true, if_false, Int.reduceEq]
    exact qXg hN h hx
end
theorem RelA.setNow {p : GPermitPlan} {A : AO} {g : jJq} {st : List (Str × jJj)} {air : List (Str × jJz)} {pe : List (Str × Str)} (h : RelA p A g st air pe) (t : Int) : RelB p { A with now := t } ({ g with now := t } : jJq) air := ⟨h.b.plan, rfl, h.b.hair, h.b.airg⟩
def qXv (p : GPermitPlan) (A : AO) (x : GEvent) (G : AO × List Str × Int) : AO × List Str × Int := bif decide (G.2.2 = 0) then (({ jZd p G.1 with done := A.done ++ [x] } : AO), [], 0) else G
theorem qJs {p : GPermitPlan} {A S : AO} {x : GEvent} {e : Int} {l : List Str} (he : e ≠ 0) : qXv p A x (jMj S e l) = jMj S e l := by
 unfold qXv jMj
 simp only []
 rw [dF he]; rfl
theorem qJa {p : GPermitPlan} {A : AO} {x : GEvent} {G : AO × List Str × Int} (he : G.2.2 ≠ 0) : qXv p A x G = G := by
 unfold qXv; rw [dF he]; rfl
theorem qZ4 {p : GPermitPlan} {A : AO} {x : GEvent} {G : AO × List Str × Int} (he : G.2.2 = 0) : qXv p A x G = (({ jZd p G.1 with done := A.done ++ [x] } : AO), [], 0) := by
 unfold qXv; rw [dT he]; rfl
theorem Do_eq {N : Nat} {p : GPermitPlan} {A : AO} {g : jJq} {st : List (Str × jJj)} {air : List (Str × jJz)} {pe : List (Str × Str)} (hp : SmP p) (ho : OkP p) (hN : 1000000 ≤ N) (h : RelA p A g st air pe) (hi : qZ1 p A) (hd : A.done.length < 999999) (x : GEvent) :
    ∃ g' st' air' pe', jVl N g st air pe x = some (g', st', air', pe', (doA p A x).2.1, (doA p A x).2.2) ∧ RelA p (doA p A x).1 g' st' air' pe' := by
  have hlim : lim ≥ 10000000 := by decide
  have hm := hp.m
  obtain ⟨gp, gn, gd⟩ := g
  have hg : p = gp := h.b.plan.symm
  have hgn : gn = A.now := h.b.now
  have hgd : gd = A.done := h.done
  subst hg hgn hgd
  unfold jVl doA
  rw [qYk, bS]
  have hlen : (qJl.length : Int) = 12 := rfl
  rw [hlen, jQq, jDw]
  by_cases hr : x.Op < 0 ∨ 12 ≤ x.Op ∨ x.At < 0 ∨ 1000000 < x.At
  · have hr' : (decide (x.Op < 0) || decide (12 ≤ x.Op) || decide (x.At < 0) || decide (1000000 < x.At)) = true := by simpa [or_assoc] using hr
    rw [hr', cond_true]
    refine ⟨⟨p, A.now, A.done⟩, st, air, pe, ?_, h⟩
    unfold jUa
    rw [jDw, jB9]
    cases hc : (decide (x.Op < 0) || decide (12 ≤ x.Op)) with
    | true => rfl
    | false =>
      simp only [Bool.not_false, cond_true, bS, Bool.false_or]
      have : (decide (0 ≤ x.At) && decide (x.At ≤ 1000000)) = false := by
        rw [Bool.or_eq_false_iff, decide_eq_false_iff_not, decide_eq_false_iff_not] at hc
        rw [Bool.and_eq_false_iff, decide_eq_false_iff_not, decide_eq_false_iff_not]; omega
      rw [this]; rfl
  · have hr' : (decide (x.Op < 0) || decide (12 ≤ x.Op) || decide (x.At < 0) || decide (1000000 < x.At)) = false := by simp; omega
    rw [hr', cond_false]
    have hop : (decide (x.Op < 0) || decide (12 ≤ x.Op)) = false := by simp; omega
    have htm : jUa N x.At = some true := by
      unfold jUa; rw [jDw, jB9, dT (by omega), dT (by omega)]; rfl
    rw [hop, htm]
    simp only [Bool.not_false, cond_true, bS, Bool.not_true, Bool.or_self, cond_false, jQq]
    by_cases hlt : x.At < A.now
    · rw [dT hlt]; exact ⟨⟨p, A.now, A.done⟩, st, air, pe, rfl, h⟩
    rw [dF hlt, cond_false, cond_false]
    have hw0 := hi.w
    have hw : WA p A.done { A with now := x.At } := hw0.le (fun s => .inl rfl) (fun _ => rfl) ⟨by show A.now ≤ x.At; omega, by show x.At ≤ 1000000; omega⟩ hw0.pp (fun s t e => .inl e) hw0.pl
    have hb0 : BdA { A with now := x.At } := hw.bd (by omega)
    obtain ⟨st1, e1, r1⟩ := jRl (pe := pe) hp ho hN (h.setNow x.At) h.st hb0
    rw [e1, bS, qW7 (by omega) (by omega), bS, jAd (by omega) (by omega)]
    have hS : RelA p (jZd p { A with now := x.At }) (⟨p, x.At, A.done⟩ : jJq) st1 air pe := ⟨⟨rfl, rfl, h.b.hair, h.b.airg⟩, r1, h.pe, h.done⟩
    have hbS : BdA (jZd p { A with now := x.At }) := hb0.settle
    have hiS : qZ1 p (jZd p { A with now := x.At }) := jLe ho hw
    have hact : ∀ (G : AO × List Str × Int), (∃ o, jMx N (⟨p, x.At, A.done⟩ : jJq) st1 air pe (jBw x.Op).do_ x = some o ∧ qX5 p (⟨p, x.At, A.done⟩ : jJq) G o) → StepA p (jZd p { A with now := x.At }) x G → ∃ g' st' air' pe', ((jMx N (⟨p, x.At, A.done⟩ : jJq) st1 air pe (jBw x.Op).do_ x).bind fun v14 => bif (jJy .neq v14.2.2.2.e 0) then (some ((⟨p, x.At, A.done⟩ : jJq), v14.1, v14.2.1, v14.2.2.1, v14.2.2.2.names, v14.2.2.2.e)) else ((jZp N (⟨p, x.At, A.done⟩ : jJq) v14.1 v14.2.1 v14.2.2.1).bind fun v15 => (app A.done [x]).bind fun v16 => some ((⟨p, x.At, v16⟩ : jJq), v15, v14.2.1, v14.2.2.1, ([] : List Str), (0 : Int)))) = some (g', st', air', pe', (qXv p A x G).2.1, (qXv p A x G).2.2) ∧ RelA p (qXv p A x G).1 g' st' air' pe' := by
      rintro G ⟨⟨a1, a2, a3, a4⟩, ho1, ho2⟩ hstep
      rw [ho1, bS]
      have hrel := ho2.rel
      have href : a4 = ⟨G.2.1, G.2.2⟩ := ho2.ref
      simp only [] at hrel
      subst href
      simp only [jH2]
      by_cases h0 : G.2.2 = 0
      · rw [dT h0, qZ4 h0]
        simp only [Bool.not_true, cond_false]
        have hw2 := hstep.2.1 _ hiS.w
        have hdn : (jZd p { A with now := x.At }).done = A.done := rfl
        have hb2 : BdA G.1 := hw2.bd (by rw [List.length_append, hdn]; simp only [List.length_singleton]; omega)
        obtain ⟨st2, e2, r2⟩ := jRl (pe := a3) hp ho hN hrel.b hrel.st hb2
        rw [e2, bS, qQ6 (by simp only [List.length_singleton]; omega), bS]
        exact ⟨_, _, _, _, rfl, ⟨hrel.b.plan, hrel.b.now, hrel.b.hair, hrel.b.airg⟩, r2, hrel.pe, rfl⟩
      · rw [dF h0, qJa h0]
        exact ⟨_, _, _, _, rfl, hrel⟩
    have hdeed := fun hh => qWn hp ho hN hS hbS hiS.w.pp (x := x) (by omega) (by omega) hh
    have hstep := jS2 ho (A := jZd p { A with now := x.At }) (x := x) (by omega) (by omega)
    show ∃ g' st' air' pe', _ = some (g', st', air', pe', (qXv p A x (qWh p (jZd p { A with now := x.At }) x)).2.1, (qXv p A x (qWh p (jZd p { A with now := x.At }) x)).2.2) ∧ RelA p (qXv p A x (qWh p (jZd p { A with now := x.At }) x)).1 g' st' air' pe'
    unfold qWh at hstep ⊢
    cases hs : jMb x.Op with
    | none =>
      rw [hs] at hstep
      simp only [Option.getD_none, List.isEmpty_nil, Bool.not_true, cond_false, bS, Sum.elim_inl]
      exact hact _ (hdeed fun hn => absurd hs hn) hstep
    | some l =>
      rw [hs] at hstep
      obtain ⟨hl1, hl2⟩ := qZy hs
      simp only [Option.getD_some, hl1, Bool.not_false, cond_true] at hstep ⊢
      rw [jT2 hp hN, bS]
      simp only []
      cases hh : jUm p x.Name with
      | false => simp only [Bool.not_false, cond_true]; rw [qJs (by decide)]; exact ⟨_, _, _, _, rfl, hS⟩
      | true =>
        rw [hh] at hstep
        simp only [Bool.not_true, cond_false] at hstep ⊢
        rw [jP5 hN r1 hh hl2, bS]
        cases hc : l.contains (stA (jZd p { A with now := x.At }) x.Name) with
        | false => simp only [Bool.not_false, cond_true]; rw [qJs (by decide)]; exact ⟨_, _, _, _, rfl, hS⟩
        | true =>
          rw [hc] at hstep
          simp only [Bool.not_true, cond_false, bS, Sum.elim_inl] at hstep ⊢
          exact hact _ (hdeed fun _ => hh) hstep
end Go.KB
namespace Go.KB
set_option linter.unusedVariables false
theorem fit_eq {N : Nat} (p : GPermitPlan) (hN : 1000000 ≤ N) : jHw N p = some false ∨ (jHw N p = some true ∧ SmP p ∧ jWs p = 0 ∧ p.Spaces.length ≤ 8 ∧ p.Permits.length ≤ 8 ∧ p.Exclusions.length ≤ 12) := by
 unfold jHw
 rcases qYu p hN with hg | ⟨hg, hp, _⟩
 ·rw [hg]; exact .inl rfl
 ·rw [hg, bS, Bool.not_false, cond_true, jS3 hp hN, bS, Bool.true_and]
  simp only [jUt, jB9]
  by_cases h : jWs p = 0 ∧ p.Spaces.length ≤ 8 ∧ p.Permits.length ≤ 8 ∧ p.Exclusions.length ≤ 12
  ·refine .inr ⟨?_, hp, h⟩
   rw [dT h.1, dT (by omega), dT (by omega), dT (by omega)]; rfl
  ·refine .inl ?_
   congr 1
   rw [Bool.eq_false_iff]
   intro hx
   simp only [Bool.and_eq_true, decide_eq_true_eq] at hx
   exact h (by omega)
section
variable {N : Nat} {p : GPermitPlan} {A : AO} {g : jJq} {st : List (Str × jJj)} {air : List (Str × jJz)} {pe : List (Str × Str)}
theorem Now_eq (h : RelA p A g st air pe) : jV2 N g st air pe = some A.now := by
 unfold jV2; rw [h.b.now]
theorem qK8 (hp : SmP p) (hN : 1000000 ≤ N) (h : RelA p A g st air pe) : jYm N g st air pe = some (jY4 p A fun _ => true) := by
 unfold jYm
 rw [jTq hp hN h (φ := fun y0 => jVn N y0) (so := fun _ => true) (fun _ _ => rfl)]; rfl
theorem qUr (hp : SmP p) (hN : 1000000 ≤ N) (h : RelA p A g st air pe) (b : BdA A) {s : Str} : jYl N g st air pe s = some (bif jM3 p s then (qXw p A s, qXl p A s, 0) else (false, false, 6)) := by
 unfold jYl
 rw [h.b.plan, jFd hp hN, bS, qV1 hp hN h.b b]
 cases jM3 p s <;> rfl
end
theorem do_done {p : GPermitPlan} (ho : OkP p) {A : AO} {x : GEvent} : (doA p A x).1.done.length ≤ A.done.length + 1 := by
  unfold doA
  by_cases hr : x.Op < 0 ∨ 12 ≤ x.Op ∨ x.At < 0 ∨ 1000000 < x.At
  · have hr' : (decide (x.Op < 0) || decide (12 ≤ x.Op) || decide (x.At < 0) || decide (1000000 < x.At)) = true := by simpa [or_assoc] using hr
    rw [hr']; exact Nat.le_succ _
  · have hr' : (decide (x.Op < 0) || decide (12 ≤ x.Op) || decide (x.At < 0) || decide (1000000 < x.At)) = false := by simp; omega
    rw [hr', cond_false]
    cases decide (x.At < A.now) with
    | true => exact Nat.le_succ _
    | false =>
      obtain ⟨_, _, _, s4, _⟩ := jS2 ho (A := jZd p { A with now := x.At }) (x := x) (by omega) (by omega)
      show (qXv p A x (qWh p (jZd p { A with now := x.At }) x)).1.done.length ≤ _
      by_cases h0 : (qWh p (jZd p { A with now := x.At }) x).2.2 = 0
      · rw [qZ4 h0]; show (A.done ++ [x]).length ≤ _; simp
      · rw [qJa h0, s4]; exact Nat.le_succ _
structure RunI (p : GPermitPlan) (i : Nat) (A : AO) (g : jJq) (st : List (Str × jJj)) (air : List (Str × jJz)) (pe : List (Str × Str)) : Prop where
 rel : RelA p A g st air pe
 inv : qZ1 p A
 len : A.done.length ≤ i
theorem RunI.bd {p : GPermitPlan} {i : Nat} {A : AO} {g : jJq} {st : List (Str × jJj)} {air : List (Str × jJz)} {pe : List (Str × Str)} (h : RunI p i A g st air pe) (hi : i < 1000000) : BdA A := h.inv.w.bd (Nat.lt_of_le_of_lt h.len hi)
theorem qUm {N : Nat} {p : GPermitPlan} (hp : SmP p) (ho : jWs p = 0) (hN : 1000000 ≤ N) : ∃ st, jK3 N p = some (some ((⟨p, 0, []⟩ : jJq), st, [], []), 0) ∧ RunI p 0 (newA p) (⟨p, 0, []⟩ : jJq) st [] [] := by
 obtain ⟨st, h1, h2⟩ := New_eq hp ho hN
 exact ⟨st, h1, h2, qUk (okP ho), Nat.le_refl _⟩
theorem run_do {N : Nat} {p : GPermitPlan} {i : Nat} {A : AO} {g : jJq} {st : List (Str × jJj)} {air : List (Str × jJz)} {pe : List (Str × Str)} (hp : SmP p) (ho : OkP p) (hN : 1000000 ≤ N) (h : RunI p i A g st air pe) (hi : i < 1000) (x : GEvent) :
  ∃ g' st' air' pe', jVl N g st air pe x = some (g', st', air', pe', (doA p A x).2.1, (doA p A x).2.2) ∧ RunI p (i + 1) (doA p A x).1 g' st' air' pe' := by
 have hl := h.len
 obtain ⟨g', st', air', pe', h1, h2⟩ := Do_eq hp ho hN h.rel h.inv (by omega) x
 exact ⟨g', st', air', pe', h1, h2, (inv_do ho h.inv).1, Nat.le_trans (do_done ho) (by omega)⟩
end Go.KB
