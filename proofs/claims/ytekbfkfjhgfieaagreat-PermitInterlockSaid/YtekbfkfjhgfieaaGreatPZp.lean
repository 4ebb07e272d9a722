/- Plain laws of chapter 7: why a permit is not opened. Plain laws of chapter 7: the people in the spaces, in the order of their names. Plain laws of chapter 7: what the program's office does. Plain laws of chapter 7: each event in the program's office. Plain laws of chapter 7: the program's office does what the office by names does. Plain laws of chapter 7: what the statements share. No condition. -/
import Derived.Test.YtekbfkfjhgfieaaGreatPZn
import Derived.Test.YtekbfkfjhgfieaaGreatPAwk
namespace Go.KB
set_option linter.unusedVariables false
def qKg {S R : Type} (Y : S → R → Option (S × Bool)) : List R → S → Option S
 | [], s => some s
 | r :: l, s => (Y s r).bind fun v => bif v.2 then qKg Y l v.1 else some v.1
theorem yloop {S : Type} {N : Nat} {Y : S → jJ8 → Option (S × Bool)} {l : List jJ8} {s : S} (hl : l.length < 1000) (hN : 1000000 ≤ N) : ((jXz (jQc N Y l) N (0, s)).bind fun o15 => Sum.elim (fun l17 => some l17) (fun r18 => some r18) o15) = qKg Y (l.filter fun r => !r.Names.isEmpty) s := by
 have key : ∀ k i s, i + k = l.length → ∀ M, k < M → ((jXz (jQc N Y l) M ((i : Int), s)).bind fun o15 => Sum.elim (fun l17 => some l17) (fun r18 => some r18) o15) = qKg Y ((l.drop i).filter fun r => !r.Names.isEmpty) s := by
  intro k
  induction k with
  | zero =>
   intro i s hi M hM
   obtain ⟨M, rfl⟩ : ∃ m, M = m + 1 := ⟨M - 1, by omega⟩
   have : i = l.length := by omega
   subst this
   have e : jQc N Y l ((l.length : Int), s) = some (.inr (Sum.inl s)) := by
    unfold jQc
    simp only []
    rw [jJ9, dF (by omega), cond_false]
   simp only [jXz, e, List.drop_length]; rfl
  | succ k ih =>
   intro i s hi M hM
   obtain ⟨M, rfl⟩ : ∃ m, M = m + 1 := ⟨M - 1, by omega⟩
   have hil : i < l.length := by omega
   have e : jQc N Y l ((i : Int), s) = bif !l[i].Names.isEmpty then (Y s l[i]).bind (fun v => bif v.2 then some (.inl (((i + 1 : Nat) : Int), v.1)) else some (.inr (.inr v.1))) else some (.inl (((i + 1 : Nat) : Int), s)) := by
    unfold jQc
    simp only []
    rw [jJ9, dT (by omega), cond_true, jVx hil, bS, gt0, jBc (by omega)]
    cases l[i].Names.isEmpty with
    | true => rfl
    | false =>
     simp only [Bool.not_false, cond_true, Bool.true_and]
     congr 1
     funext v
     cases v.2 <;> rfl
   simp only [jXz, e]
   rw [drop_at hil, List.filter_cons]
   cases hn : l[i].Names.isEmpty with
   | true => simp only [Bool.not_true, cond_false]; exact ih (i + 1) s (by omega) M (by omega)
   | false =>
    simp only [Bool.not_false, cond_true, if_true, qKg]
    cases hy : Y s l[i] with
    | none => rfl
    | some v =>
     simp only [bS]
     cases hv : v.2 with
     | false => rfl
     | true => simp only [cond_true]; exact ih (i + 1) v.1 (by omega) M (by omega)
 simpa using key l.length 0 s (by omega) N (by omega)
theorem jNz {p : GPermitPlan} {A : AO} {N : Nat} {f : (List Str × Int) → Option ((List Str × Int) ⊕ List Str)} {so : jJu → Bool} (hp : SmP p) (hN : 1000000 ≤ N) (hf : ∀ (i : Nat) (hi : i < p.Permits.length) (acc : List Str), acc.length < 1000000 → f (acc, (i : Int)) = bif decide (stA A p.Permits[i].Name = 2) && so p.Permits[i] then ((app acc [p.Permits[i].Name]).bind fun v => some (.inl (v, ((i + 1 : Nat) : Int)))) else some (.inl (acc, ((i + 1 : Nat) : Int)))) (he : ∀ acc, f (acc, (p.Permits.length : Int)) = some (.inr acc)) : jXz f N ([], 0) = some (jKg p A so) := by
 have hm := hp.m
 have hlim : lim ≥ 10000000 := by decide
 rw [qX4 (f := f) p.Permits [] (fun x => decide (stA A x.Name = 2) && so x) (fun x => x.Name) (fun a i => (a, i)) (fun a => a) (fun i hi acc hacc => ?_) he (by omega)]
 ·rfl
 ·simp only [List.length_nil] at hacc
  rw [hf i hi acc (by omega)]
  cases (decide (stA A p.Permits[i].Name = 2) && so p.Permits[i]) with
  | false => rfl
  | true => simp only [cond_true]; rw [qXr (by simp only [List.length_singleton]; omega)]; rfl
section
variable {N : Nat} {p : GPermitPlan} {A : AO} {g : jJx} {st : List (Str × jJq)} {air : List (Str × jJv)} {pe : List (Str × Str)} (hp : SmP p) (ho : OkP p) (hN : 1000000 ≤ N) (h : RelA p A g st air pe) (b : BdA A)
include hp hN h
theorem qYr {x : jJu} : jX3 N g st air pe x = some (jKg p A fun y => jHs p y x) := by
 have hm := hp.m
 unfold jX3
 rw [jNz (f := jQ0 N g st air pe x) (A := A) (so := fun y => jHs p y x) hp hN (fun i hi acc hacc => ?_) (fun acc => ?_)]
 ·rfl
 ·unfold jQ0
  simp only []
  rw [h.b.plan, jJ9, dT (by omega), cond_true, jVx hi, bS, jP1 hN h.st (jNc hi) (by decide), bS, jBc (by omega)]
  have hc : ([2] : List Int).contains (stA A p.Permits[i].Name) = decide (stA A p.Permits[i].Name = 2) := by rw [Bool.eq_iff_iff]; simp
  have hq : jVh N g st air pe p.Permits[i] x = some (jHs p p.Permits[i] x) := by
   unfold jVh
   rw [h.b.plan, jMz hp hN]; rfl
  rw [hc, hq]
  cases decide (stA A p.Permits[i].Name = 2) with
  | false => rfl
  | true => rfl
 ·unfold jQ0
  simp only []
  rw [h.b.plan, jJ9, dF (by omega), cond_false]
end
end Go.KB
namespace Go.KB
set_option linter.unusedVariables false
theorem qZd (a b c : Str) (h1 : a ≤ b) (h2 : b ≤ c) : a ≤ c := List.le_trans h1 h2
theorem qZ1 (a b : Str) : a ≤ b ∨ b ≤ a := List.le_total a b
theorem jCd (a b : Str) (h1 : a ≤ b) (h2 : b ≤ a) : a = b := Std.Antisymm.antisymm (r := (· ≤ ·)) a b h1 h2
theorem slt_le {a b : Str} (h : a < b) : a ≤ b := List.le_of_lt h
theorem jAq {l m : List Str} (hp : l.Perm m) (hs : m.Pairwise (fun a b => a < b)) : jMl l = m := by
 unfold jMl
 refine List.Perm.eq_of_pairwise (le := fun a b : Str => a ≤ b) (fun a b _ _ h1 h2 => jCd a b h1 h2) ?_ (hs.imp fun h => slt_le h) ((List.mergeSort_perm _ _).trans hp)
 have := List.pairwise_mergeSort (le := fun x y : Str => decide (x ≤ y)) (fun a b c h1 h2 => decide_eq_true (qZd a b c (of_decide_eq_true h1) (of_decide_eq_true h2))) (fun a b => by
  rcases qZ1 a b with h | h <;> simp [h]) l
 exact this.imp fun h => of_decide_eq_true h
theorem qWj {f : List Str → (Str × Str) → Option (List Str)} {so : Str → Bool} (π : List (Str × Str)) (hf : ∀ acc q, q ∈ π → acc.length < 1000000 → f acc q = some (bif so q.2 then acc ++ [q.1] else acc)) : ∀ acc, acc.length + π.length < 1000000 → qXg f π acc = some (acc ++ (π.filter fun q => so q.2).map fun q => q.1) := by
 induction π with
 | nil => intro acc _; simp [qXg]
 | cons q r ih =>
  intro acc h
  simp only [List.length_cons] at h
  unfold qXg
  rw [hf acc q List.mem_cons_self (by omega), bS, ih (fun acc q hq => hf acc q (List.mem_cons_of_mem _ hq)) _ (by cases so q.2 <;> simp <;> omega), List.filter_cons]
  cases so q.2 <;> simp
theorem qJ3 {A : AO} {pe : List (Str × Str)} {f : List Str → (Str × Str) → Option (List Str)} {so : Str → Bool} (hpe : pe.Perm A.pp) (hpp : A.pp.Pairwise (fun a b => a.1 < b.1)) (hl : A.pp.length < 1000000) (hf : ∀ acc q, q ∈ pe → acc.length < 1000000 → f acc q = some (bif so q.2 then acc ++ [q.1] else acc)) :
    (jRv pe fun q => (qXg f q []).bind fun s => (qQt s).bind fun v => some v) = some (jMw A so) := by
  refine qVs fun π hπ => ?_
  have hp : π.Perm A.pp := hπ.trans hpe
  have hlen : π.length = A.pp.length := hp.length_eq
  rw [qWj (so := so) π (fun acc q hq h => hf acc q (hπ.mem_iff.1 hq) h) [] (by simp; omega), bS, List.nil_append]
  have hs : qQt ((π.filter fun q => so q.2).map fun q => q.1) = some (jMw A so) := by
    unfold qQt
    have h1 : ((π.filter fun q => so q.2).map fun q => q.1).length ≤ 1000000 := by
      rw [List.length_map]; have := List.length_filter_le (fun q : Str × Str => so q.2) π; omega
    rw [Nat.ble_eq_true_of_le h1, cond_true]
    congr 1
    refine jAq ((hp.filter _).map _) ?_
    unfold jMw
    rw [List.pairwise_map]
    exact List.Pairwise.filter _ hpp
  rw [hs]; rfl
end Go.KB
namespace Go.KB
set_option linter.unusedVariables false
theorem ne0 {α : Type} {l : List α} : jJy .eql (List.length l : Int) 0 = l.isEmpty := by
 rw [jGl]
 cases l with
 | nil => rfl
 | cons x r => simp; omega
def outF (R : AO × List Str × Int) (a b : List (Str × jJq)) : List (Str × jJq) × jJw := (bif decide (R.2.2 = 0) then a else b, ⟨R.2.1, R.2.2⟩)
theorem qJn {A : AO} {e : Int} {l : List Str} {a b : List (Str × jJq)} (he : e ≠ 0) : outF (jL9 A e l) a b = (b, ⟨l, e⟩) := by
 show ((bif decide (e = 0) then a else b), (⟨l, e⟩ : jJw)) = _
 rw [dF he]; rfl
theorem qXy {l : List jJ8} {g : jJw → jJ8 → Option (jJw × Option Nat)} (hg : ∀ s r, g s r = some (⟨r.Names, r.Err⟩, some 0)) : qKg (yl g 1) l ((⟨[], 0⟩ : jJw), none) = some (match l with | [] => (⟨[], 0⟩, none) | r :: _ => (⟨r.Names, r.Err⟩, some 0)) := by
 cases l with
 | nil => rfl
 | cons r l =>
  unfold qKg yl
  simp only [hg]
  rfl
theorem qVl {p : GPermitPlan} {A : AO} {x : jJu} : ∀ r ∈ qWw p A x, r.Err ≠ 0 := by
 intro r hr
 unfold qWw at hr
 rcases List.mem_append.1 hr with hr | hr
 ·cases hd : decide (A.now < x.From) with
  | false => rw [hd] at hr; cases hr
  | true => rw [hd, cond_true, List.mem_singleton] at hr; subst hr; decide
 ·have hr := (List.mem_filter.1 hr).1
  rcases List.mem_append.1 hr with hr | hr
  ·simp only [List.mem_cons, List.not_mem_nil, or_false] at hr
   rcases hr with rfl | rfl | rfl <;> simp
  ·cases hd : decide (x.Kind = 3) with
   | false => rw [hd] at hr; cases hr
   | true => rw [hd, cond_true, List.mem_singleton] at hr; subst hr; simp
section
variable {N : Nat} {p : GPermitPlan} {A : AO} {g : jJx} {st : List (Str × jJq)} {air : List (Str × jJv)} {pe : List (Str × Str)} (hp : SmP p) (ho : OkP p) (hN : 1000000 ≤ N) (h : RelA p A g st air pe) (b : BdA A) (hpp : A.pp.Pairwise (fun a b => a.1 < b.1))
include hp hN h
theorem jS1 {φ : jJu → Option Bool} {so : jJu → Bool} (hφ : ∀ y ∈ p.Permits, φ y = some (so y)) : jXh N g st air pe φ = some (jKg p A so) := by
 have hm := hp.m
 unfold jXh
 rw [jNz (f := jVr N g st air pe φ) (A := A) (so := so) hp hN (fun i hi acc hacc => ?_) (fun acc => ?_)]
 ·rfl
 ·unfold jVr
  simp only []
  rw [h.b.plan, jJ9, dT (by omega), cond_true, jVx hi, bS, jP1 hN h.st (jNc hi) (by decide), bS, jBc (by omega)]
  have hc : ([2] : List Int).contains (stA A p.Permits[i].Name) = decide (stA A p.Permits[i].Name = 2) := by rw [Bool.eq_iff_iff]; simp
  rw [hc, hφ _ (List.getElem_mem hi)]
  cases decide (stA A p.Permits[i].Name = 2) <;> rfl
 ·unfold jVr
  simp only []
  rw [h.b.plan, jJ9, dF (by omega), cond_false]
theorem qVd {s : Str} : jW0 N g st air pe s = some (jFs p A s) := by
 unfold jW0 jFs
 rw [jS1 hp hN h (so := fun y => decide (y.Kind = 1) && decide (y.Space = s)) (fun y _ => by unfold jZp; rw [jGl, jUa]), bS, gt0]
include b hpp
omit hp hN in
theorem qXd {φ : Str → Option Bool} {so : Str → Bool} (hφ : ∀ s, φ s = some (so s)) : jZ6 N g st air pe φ = some (jMw A so) := by
 have hlim : lim ≥ 10000000 := by decide
 unfold jZ6
 refine qJ3 (f := jVe N φ) h.pe hpp b.pl fun acc q _ hacc => ?_
 unfold jVe
 rw [hφ, bS]
 cases so q.2 with
 | false => rfl
 | true => rw [cond_true, cond_true, qXr (by simp only [List.length_singleton]; omega)]; rfl
theorem jA2 {x : jJu} : jXm N g st air pe x = some (jMw A fun s => decide (jUt p s x.Space ≤ 1)) := by
 have hlim : lim ≥ 10000000 := by decide
 unfold jXm
 refine qJ3 (f := jXj N g st air x) (so := fun s => decide (jUt p s x.Space ≤ 1)) h.pe hpp b.pl fun acc q _ hacc => ?_
 unfold jXj jV6
 rw [h.b.plan, jRx hp hN, bS, bS, jDq]
 cases decide (jUt p q.2 x.Space ≤ 1) with
 | false => rfl
 | true => rw [cond_true, cond_true, qXr (by simp only [List.length_singleton]; omega)]; rfl
include ho
theorem qXu {S : Type} {Y : S → jJ8 → Option (S × Bool)} {y0 : S} {x : jJu} (hx : x ∈ p.Permits) : jZr N Y y0 g st air pe x = qKg Y (qWw p A x) y0 := by
 have hlim : lim ≥ 10000000 := by decide
 unfold jZr qWw
 rw [jJ9, h.b.now, jP3 hp hN h.st (hp.l _ hx) (fun l hl => (ho.lk _ hx l hl).1), qYr hp hN h, jSy hp hN h.b b, jA2 hp hN h b hpp, jGl]
 simp only [bS]
 have hl : ((bif decide (x.Kind = 3) then ((app [(⟨18, qXv A x⟩ : jJ8), (⟨20, jKg p A fun y => jHs p y x⟩ : jJ8), (⟨21, jSj p A x⟩ : jJ8)] [(⟨17, jMw A fun s => decide (jUt p s x.Space ≤ 1)⟩ : jJ8)]).bind fun v6 => some v6) else (some [(⟨18, qXv A x⟩ : jJ8), (⟨20, jKg p A fun y => jHs p y x⟩ : jJ8), (⟨21, jSj p A x⟩ : jJ8)])) : Option (List jJ8)) = some ([(⟨18, qXv A x⟩ : jJ8), (⟨20, jKg p A (fun y => jHs p y x)⟩ : jJ8), (⟨21, jSj p A x⟩ : jJ8)] ++ (bif decide (x.Kind = 3) then [(⟨17, jMw A (fun s => decide (jUt p s x.Space ≤ 1))⟩ : jJ8)] else [])) := by
  cases decide (x.Kind = 3) with
  | false => rfl
  | true => rw [cond_true, qXr (by simp only [List.length_cons, List.length_nil]; omega)]; rfl
 rw [hl]
 simp only [bS]
 have hlen : ([(⟨18, qXv A x⟩ : jJ8), (⟨20, jKg p A (fun y => jHs p y x)⟩ : jJ8), (⟨21, jSj p A x⟩ : jJ8)] ++ (bif decide (x.Kind = 3) then [(⟨17, jMw A (fun s => decide (jUt p s x.Space ≤ 1))⟩ : jJ8)] else [])).length < 1000 := by
  cases decide (x.Kind = 3) <;> simp
 simp only [yloop hlen hN]
 cases hd : decide (A.now < x.From) with
 | false => simp only [cond_false, bS, Bool.false_and, List.nil_append]
 | true =>
  simp only [cond_true, Bool.true_and, List.singleton_append, qKg]
  congr 1
  funext v
  cases v.2 <;> rfl
theorem qYy {x : GEvent} (hh : jUs p x.Name = true) : jWz N g st air pe x = some (outF (jN1 p A x) (jHb st x.Name { A.es x.Name with state := 2 }) st) := by
 have hm := hp.m
 unfold jWz jN1
 rw [jFn (by omega), bS, jUa, h.st.get _ hh]
 cases jWr x.Person with
 | false => rfl
 | true =>
  cases decide (x.Person = (A.es x.Name).by_) with
  | true => rfl
  | false =>
   simp only [Bool.not_true, cond_false]
   rw [h.b.plan, jHy (by omega) hN, bS]
   unfold jY6
   rw [bS]
   show ((jZr N (yl (jX2 N) 1) ((⟨[], 0⟩ : jJw), none) g st air pe (atP p x.Name)).bind _) = _
   rw [qXu hp ho hN h b hpp (jBa hh).1, qXy (g := jX2 N) (fun s r => rfl), bS]
   have hw := qVl (p := p) (A := A) (x := atP p x.Name)
   cases hwy : qWw p A (atP p x.Name) with
   | nil =>
    simp only [jSp]
    unfold jQg
    rw [h.st.get _ hh]; rfl
   | cons r l =>
    have h0 : r.Err ≠ 0 := hw r (by rw [hwy]; exact List.mem_cons_self)
    show (bif decide True then some (st, (⟨r.Names, r.Err⟩ : jJw)) else none) = some (outF (jL9 A r.Err r.Names) _ st)
    rw [qJn h0]; rfl
omit ho in
theorem qZg {x : GEvent} (hh : jUs p x.Name = true) : jV1 N g st air pe x = some (outF (jNg p A x) (jHb st x.Name { A.es x.Name with state := 4 }) st) := by
  have hm := hp.m
  have hs := hp.s
  obtain ⟨hy, hyn⟩ := jBa hh
  have hb : jQg N g st air pe x.Name 4 = some (jHb st x.Name { A.es x.Name with state := 4 }) := by
    unfold jQg; rw [h.st.get _ hh]
  unfold jV1 jNg
  rw [h.b.plan, jHy (by omega) hN, bS]
  show ((jXc N p (atP p x.Name).Space).bind fun v2 => _) = _
  rw [jH8 (by omega) hN, bS]
  simp only []
  have e1 : jXh N g st air pe (fun y0 => jXa N y0 (atP p x.Name)) = some (jKg p A (fun z => inL z.Locks (atP p x.Name).Name)) := jS1 hp hN h fun y hy => by
    unfold jXa; rw [jPk (Nat.lt_trans (hp.l y hy) (by decide)) hN]; rfl
  have e2 : jXh N g st air pe (fun y0 => jXe N y0 (atP p x.Name)) = some (jKg p A (fun z => decide (z.Kind = 1) && decide (z.Space = (atP p x.Name).Space) && !decide (z.Name = (atP p x.Name).Name))) := jS1 hp hN h fun y hy => by
    unfold jXe; rw [jGl, jUa, qYx]
  have e3 : jZ6 N g st air pe (fun y0 => jX0 N y0 (atP p x.Name)) = some (jMw A (fun s => decide (s = (atP p x.Name).Space))) := qXd h b hpp fun s => by
    unfold jX0; rw [jUa]
  have e4 : jQf N g st air pe (atP p x.Name).Name [2] = some (decide (stA A (atP p x.Name).Name = 2)) := by
    rw [jP1 hN h.st (by rw [hyn]; exact hh) (by decide)]
    congr 1; rw [Bool.eq_iff_iff]; simp
  show (((bif jJy .eql (atP p x.Name).Kind 5 then ((jXh N g st air pe (fun y0 => jXa N y0 (atP p x.Name))).bind fun v3 => bif (jJy .gtr (List.length v3 : Int) 0) then ((jZm N 20 v3).bind fun v4 => some (Sum.inr v4)) else (some (Sum.inl (⟨[], 0⟩ : jJw)))) else ((bif jJy .eql (atP p x.Name).Kind 1 then (jQf N g st air pe (atP p x.Name).Name [2]) else some false).bind fun v6 => bif ((jJy .eql (atP p x.Name).Kind 1 && v6) && (atS p (atP p x.Name).Space).Enclosed) then ((jXh N g st air pe (fun y0 => jXe N y0 (atP p x.Name))).bind fun v7 => (jZ6 N g st air pe (fun y0 => jX0 N y0 (atP p x.Name))).bind fun v8 => bif (jJy .eql (List.length v7 : Int) 0 && jJy .gtr (List.length v8 : Int) 0) then ((jZm N 21 v8).bind fun v9 => some (Sum.inr v9)) else (some (Sum.inl (⟨[], 0⟩ : jJw)))) else (some (Sum.inl (⟨[], 0⟩ : jJw))))) : Option (jJw ⊕ jJw)).bind fun o13 => Sum.elim (fun l15 => (jQg N g st air pe x.Name 4).bind fun v17 => some (v17, (⟨[], 0⟩ : jJw))) (fun r16 => some (st, r16)) o13) = _
  rw [e1, e2, e3, e4, hb]
  simp only [bS, gt0, ne0]
  simp only [jGl]
  unfold jZm
  by_cases h5 : (atP p x.Name).Kind = 5
  · rw [dT h5, dF (show ¬ (atP p x.Name).Kind = 1 by omega)]
    simp only [cond_true, Bool.true_and, Bool.false_and, cond_false]
    cases (jKg p A (fun z => inL z.Locks (atP p x.Name).Name)).isEmpty <;> rfl
  · rw [dF h5]
    simp only [cond_false, Bool.false_and]
    cases decide ((atP p x.Name).Kind = 1) with
    | false => rfl
    | true =>
      simp only [cond_true, Bool.true_and, bS]
      cases decide (stA A (atP p x.Name).Name = 2) with
      | false => rfl
      | true =>
        cases (atS p (atP p x.Name).Space).Enclosed with
        | false => rfl
        | true =>
          simp only [Bool.true_and, cond_true]
          cases (jKg p A (fun z => decide (z.Kind = 1) && decide (z.Space = (atP p x.Name).Space) && !decide (z.Name = (atP p x.Name).Name))).isEmpty with
          | false => rfl
          | true => cases (jMw A (fun s => decide (s = (atP p x.Name).Space))).isEmpty <;> rfl
end
end Go.KB
namespace Go.KB
set_option linter.unusedVariables false
theorem qQq {α β : Type} [DecidableEq α] {k : α} {y : β} : ∀ {m : List (α × β)}, jKc m k = false → jHb m k y = m ++ [(k, y)]
 | [], _ => rfl
 | q :: r, h => by
  unfold jKc at h
  rw [Bool.or_eq_false_iff] at h
  unfold jHb
  rw [h.1, cond_false, qQq h.2]; rfl
theorem qJ7 {β : Type} {k : Str} : ∀ {m : List (Str × β)}, jKc m k = m.any fun q => decide (q.1 = k)
  | [] => rfl
  | q :: r => by
    unfold jKc
    rw [List.any_cons, qJ7, show decide (k = q.1) = decide (q.1 = k) from decide_eq_decide.2 ⟨Eq.symm, Eq.symm⟩]
theorem qYh {α : Type} {l m : List α} {f : α → Bool} (h : l.Perm m) : l.any f = m.any f := by
 rw [Bool.eq_iff_iff, List.any_eq_true, List.any_eq_true]
 exact ⟨fun ⟨x, a, b⟩ => ⟨x, h.mem_iff.1 a, b⟩, fun ⟨x, a, b⟩ => ⟨x, h.mem_iff.2 a, b⟩⟩
theorem qJ2 {n s : Str} : ∀ {l : List (Str × Str)}, (qQe l n s).Perm ((n, s) :: l)
 | [] => List.Perm.refl _
 | q :: r => by
  unfold qQe
  cases decide (q.1 < n) with
  | false => exact List.Perm.refl _
  | true => exact (qJ2.cons q).trans (List.Perm.swap _ _ _)
theorem jRf {β : Type} {k : Str} : ∀ {m : List (Str × β)}, (m.map fun q => q.1).Nodup → jT8 m k = m.filter fun q => !decide (q.1 = k)
  | [], _ => rfl
  | q :: r, h => by
    rw [List.map_cons, List.nodup_cons] at h
    unfold jT8
    rw [List.filter_cons]
    by_cases hk : k = q.1
    · rw [dT hk, dT hk.symm, cond_true]
      simp only [Bool.not_true, Bool.false_eq_true, if_false]
      refine (List.filter_eq_self.2 fun a ha => ?_).symm
      rw [Bool.not_eq_true', decide_eq_false_iff_not]
      intro he
      exact h.1 (List.mem_map.2 ⟨a, ha, he.trans hk⟩)
    · rw [dF hk, dF (fun e => hk e.symm), cond_false, jRf h.2]; rfl
theorem qW8 {l : List (Str × Str)} (h : l.Pairwise (fun a b => a.1 < b.1)) : (l.map fun q => q.1).Nodup := by
 unfold List.Nodup
 rw [List.pairwise_map]
 exact h.imp fun {a b} hab he => by
  have hab' : a.1 < b.1 := hab
  rw [he] at hab'
  exact List.lt_irrefl _ hab'
theorem jMy {N : Nat} {p : GPermitPlan} {s : Str} (hp : SmP p) (hN : 1000000 ≤ N) : jXc N p s = some (atS p s, jPu p s) := by
 have := hp.s
 rw [jH8 (by omega) hN]
 exact congrArg some (Prod.ext rfl jDd)
theorem jTs {N : Nat} {p : GPermitPlan} {s : Str} (hp : SmP p) (hN : 1000000 ≤ N) : jZ3 N p s = some (atP p s, jUs p s) := by
 have := hp.m
 rw [jHy (by omega) hN]
 exact congrArg some (Prod.ext rfl jDd)
structure qXe (p : GPermitPlan) (g : jJx) (R : AO × List Str × Int) (o : List (Str × jJq) × List (Str × jJv) × List (Str × Str) × jJw) : Prop where
 rel : RelA p R.1 g o.1 o.2.1 o.2.2.1
 ref : o.2.2.2 = ⟨R.2.1, R.2.2⟩
theorem RelA.up {p : GPermitPlan} {A : AO} {g : jJx} {st : List (Str × jJq)} {air : List (Str × jJv)} {pe : List (Str × Str)} (h : RelA p A g st air pe) {n : Str} (hn : jUs p n = true) (e : jJq) : RelA p (upA A n e) g (jHb st n e) air pe :=
 ⟨⟨h.b.plan, h.b.now, h.b.hair, h.b.airg⟩, h.st.set hn e, h.pe, h.done⟩
section
variable {N : Nat} {p : GPermitPlan} {A : AO} {g : jJx} {st : List (Str × jJq)} {air : List (Str × jJv)} {pe : List (Str × Str)} (hp : SmP p) (ho : OkP p) (hN : 1000000 ≤ N) (h : RelA p A g st air pe) (b : BdA A) (hpp : A.pp.Pairwise (fun a b => a.1 < b.1))
theorem jH6 (h : RelA p A g st air pe) {e : Int} {l : List Str} : qXe p g (jL9 A e l) (st, air, pe, ⟨l, e⟩) := ⟨h, rfl⟩
include hN h
theorem jAn {x : GEvent} (hh : jUs p x.Name = true) : ∃ o, ((jWl N g st air pe x).bind fun y => some (y.1, air, pe, y.2)) = some o ∧ qXe p g (jPv A x) o := by
 unfold jWl jPv
 rw [jFn (by omega), bS, h.st.get _ hh]
 cases jWr x.Person with
 | false => exact ⟨_, rfl, jH6 h⟩
 | true => exact ⟨_, rfl, h.up hh _, rfl⟩
theorem qQ4 {x : GEvent} (hh : jUs p x.Name = true) : ∃ o, ((jW2 N g st air pe x).bind fun y => some (y.1, air, pe, y.2)) = some o ∧ qXe p g (jS8 A x) o := by
 unfold jW2 jS8
 rw [jFn (by omega), bS, h.st.get _ hh, jDq, jG6]
 cases jWr x.Person with
 | false => exact ⟨_, rfl, jH6 h⟩
 | true =>
  cases (decide (x.To ≤ (A.es x.Name).to_) || decide (1000000 < x.To)) with
  | true => exact ⟨_, rfl, jH6 h⟩
  | false => exact ⟨_, rfl, h.up hh _, rfl⟩
omit hN in
theorem jSk {x : GEvent} {k : Int} (hh : jUs p x.Name = true) : ∃ o, (((jQg N g st air pe x.Name k).bind fun v1 => some (v1, (⟨[], 0⟩ : jJw))).bind fun y => some (y.1, air, pe, y.2)) = some o ∧ qXe p g (jTn (beA A x.Name k)) o := by
 unfold jQg
 rw [h.st.get _ hh]
 exact ⟨_, rfl, h.up hh _, rfl⟩
include hp b hpp ho
theorem jCz {x : GEvent} (hh : jUs p x.Name = true) : ∃ o, ((jWz N g st air pe x).bind fun y => some (y.1, air, pe, y.2)) = some o ∧ qXe p g (jN1 p A x) o := by
 rw [qYy hp ho hN h b hpp hh]
 refine ⟨_, rfl, ?_, rfl⟩
 simp only []
 unfold jN1
 cases jWr x.Person with
 | false => exact h
 | true =>
  cases decide (x.Person = (A.es x.Name).by_) with
  | true => exact h
  | false =>
   simp only [Bool.not_true, cond_false]
   have hw := qVl (p := p) (A := A) (x := atP p x.Name)
   cases hwy : qWw p A (atP p x.Name) with
   | nil => exact h.up hh _
   | cons r l =>
    have h0 : r.Err ≠ 0 := hw r (by rw [hwy]; exact List.mem_cons_self)
    show RelA p A g (outF (jL9 A r.Err r.Names) _ st).1 air pe
    rw [qJn h0]; exact h
omit ho in
theorem qXq {x : GEvent} (hh : jUs p x.Name = true) : ∃ o, ((jV1 N g st air pe x).bind fun y => some (y.1, air, pe, y.2)) = some o ∧ qXe p g (jNg p A x) o := by
 rw [qZg hp hN h b hpp hh]
 refine ⟨_, rfl, ?_, rfl⟩
 simp only []
 unfold jNg
 simp only []
 cases (decide ((atP p x.Name).Kind = 5) && !(jKg p A (fun z => inL z.Locks (atP p x.Name).Name)).isEmpty) with
 | true => exact h
 | false =>
  rw [cond_false]
  cases (decide ((atP p x.Name).Kind = 1) && decide (stA A (atP p x.Name).Name = 2) && (atS p (atP p x.Name).Space).Enclosed && (jKg p A (fun z => decide (z.Kind = 1) && decide (z.Space = (atP p x.Name).Space) && !decide (z.Name = (atP p x.Name).Name))).isEmpty && !(jMw A (fun s => decide (s = (atP p x.Name).Space))).isEmpty) with
  | true => exact h
  | false => exact h.up hh _
omit ho hpp b
theorem qUc {x : GEvent} : ∃ o, ((jKz N g st air pe x).bind fun y => some (st, y.1, pe, y.2)) = some o ∧ qXe p g (gasA p A x) o := by
 have hs := hp.s
 unfold jKz gasA
 rw [h.b.plan, jMy hp hN, bS]
 simp only [jJ9, jG6]
 cases jPu p x.Space with
 | false => exact ⟨_, rfl, jH6 h⟩
 | true =>
  simp only [Bool.not_true, cond_false]
  cases (decide (x.Oxygen < 0) || decide (1000 < x.Oxygen) || decide (x.Gas < 0) || decide (1000 < x.Gas)) with
  | true => exact ⟨_, rfl, jH6 h⟩
  | false =>
   refine ⟨_, rfl, ⟨⟨h.b.plan, h.b.now, fun s => ?_, fun s t e => ?_⟩, h.st, h.pe, h.done⟩, rfl⟩
   ·simp only [cond_false, jTn]
    rw [jM1, h.b.hair]
    cases decide (s = x.Space) <;> rfl
   ·simp only [cond_false, jTn] at e ⊢
    rw [jLk]
    by_cases he : s = x.Space
    ·rw [dT he] at e; cases e; rw [if_pos he, h.b.now]
    ·rw [dF he] at e; rw [if_neg he]; exact h.b.airg s t e
theorem qYt {s : Str} : jZk N g st air pe (atS p s) = some (jKg p A (fun y => decide (y.Kind = 3) && decide (jUt p y.Space (atS p s).Name ≤ 1))) := by
 have hm := hp.m
 unfold jZk
 rw [jNz (f := jXy N g st air pe (atS p s)) (A := A) (so := fun y => decide (y.Kind = 3) && decide (jUt p y.Space (atS p s).Name ≤ 1)) hp hN (fun i hi acc hacc => ?_) (fun acc => ?_)]
 ·rfl
 ·unfold jXy
  simp only []
  rw [h.b.plan, jJ9, dT (by omega), cond_true, jVx hi, bS, jP1 hN h.st (jNc hi) (by decide), bS, jBc (by omega)]
  have hc : ([2] : List Int).contains (stA A p.Permits[i].Name) = decide (stA A p.Permits[i].Name = 2) := by rw [Bool.eq_iff_iff]; simp
  have hq : jWp N g st air pe p.Permits[i] (atS p s) = some (decide (p.Permits[i].Kind = 3) && decide (jUt p p.Permits[i].Space (atS p s).Name ≤ 1)) := by
   unfold jWp
   rw [h.b.plan, jRx hp hN, jGl]
   cases decide (p.Permits[i].Kind = 3) with
   | false => rfl
   | true => simp only [cond_true, bS, Bool.true_and, jDq]
  rw [hc, hq]
  cases decide (stA A p.Permits[i].Name = 2) <;> rfl
 ·unfold jXy
  simp only []
  rw [h.b.plan, jJ9, dF (by omega), cond_false]
theorem qYw {x : GEvent} : jZw N g st air pe x = some (jKg p A (fun y => !decide (y.Kind = 5) && decide (jUt p y.Space x.Space ≤ 1))) := by
 have hm := hp.m
 unfold jZw
 rw [jNz (f := jXk N g st air pe x) (A := A) (so := fun y => !decide (y.Kind = 5) && decide (jUt p y.Space x.Space ≤ 1)) hp hN (fun i hi acc hacc => ?_) (fun acc => ?_)]
 ·rfl
 ·unfold jXk
  simp only []
  rw [h.b.plan, jJ9, dT (by omega), cond_true, jVx hi, bS, jP1 hN h.st (jNc hi) (by decide), bS, jBc (by omega)]
  have hc : ([2] : List Int).contains (stA A p.Permits[i].Name) = decide (stA A p.Permits[i].Name = 2) := by rw [Bool.eq_iff_iff]; simp
  have hq : jWn N g st air pe p.Permits[i] x = some (!decide (p.Permits[i].Kind = 5) && decide (jUt p p.Permits[i].Space x.Space ≤ 1)) := by
   unfold jWn
   rw [h.b.plan, jRx hp hN, jBl]
   cases (!decide (p.Permits[i].Kind = 5)) with
   | false => rfl
   | true => simp only [cond_true, bS, Bool.true_and, jDq]
  rw [hc, hq]
  cases decide (stA A p.Permits[i].Name = 2) <;> rfl
 ·unfold jXk
  simp only []
  rw [h.b.plan, jJ9, dF (by omega), cond_false]
omit hp hN in
theorem jRp {n : Str} : jKc pe n = jMf A n := by
 rw [qJ7, qYh h.pe]; rfl
theorem qVx {x : GEvent} : ∃ o, ((jYz N g st air pe x).bind fun y => some (st, air, y.1, y.2)) = some o ∧ qXe p g (qQn p A x) o := by
 have hs := hp.s
 unfold jYz qQn
 rw [jFn (by omega), bS, h.b.plan]
 cases jWr x.Person with
 | false => exact ⟨_, rfl, jH6 h⟩
 | true =>
  simp only [Bool.not_true, cond_false]
  rw [jMy hp hN, bS]
  simp only []
  cases hh : jPu p x.Space with
  | false => exact ⟨_, rfl, jH6 h⟩
  | true =>
   have hnm := (qYu hh).2
   simp only [Bool.not_true, cond_false]
   rw [qVd hp hN h, qYt hp hN h, jRp h, hnm]
   cases hi : jMf A x.Person with
   | true => exact ⟨_, rfl, jH6 h⟩
   | false =>
    simp only [cond_false]
    have hx : ((bif (atS p x.Space).Enclosed then (some (jFs p A x.Space)) else some false).bind fun v6 => (some (((atS p x.Space).Enclosed && (!v6))) : Option Bool)) = some ((atS p x.Space).Enclosed && !jFs p A x.Space) := by
     cases (atS p x.Space).Enclosed <;> rfl
    have hx2 : ∀ (F : Bool → Option (List (Str × Str) × jJw)), ((bif (atS p x.Space).Enclosed then (some (jFs p A x.Space)) else some false).bind fun v6 => F ((atS p x.Space).Enclosed && (!v6))) = F ((atS p x.Space).Enclosed && !jFs p A x.Space) := by
     intro F; cases (atS p x.Space).Enclosed <;> rfl
    rw [hx2 (fun c => bif c then _ else _)]
    cases ((atS p x.Space).Enclosed && !jFs p A x.Space) with
    | true => exact ⟨_, rfl, jH6 h⟩
    | false =>
     simp only [cond_false, bS, gt0]
     cases (!(jKg p A (fun y => decide (y.Kind = 3) && decide (jUt p y.Space x.Space ≤ 1))).isEmpty) with
     | true => exact ⟨_, rfl, jH6 h⟩
     | false =>
      refine ⟨_, rfl, ⟨⟨h.b.plan, h.b.now, h.b.hair, h.b.airg⟩, h.st, ?_, h.done⟩, rfl⟩
      show (jHb pe x.Person x.Space).Perm (qQe A.pp x.Person x.Space)
      rw [qQq (by rw [jRp h]; exact hi)]
      exact (List.perm_append_singleton _ _).trans ((h.pe.cons _).trans qJ2.symm)
include hpp
omit hp in
theorem qZ3 {x : GEvent} : ∃ o, ((jW6 N g st air pe x).bind fun y => some (st, air, y.1, y.2)) = some o ∧ qXe p g (qJp A x) o := by
 unfold jW6 qJp
 rw [jFn (by omega), bS, jRp h]
 cases jWr x.Person with
 | false => exact ⟨_, rfl, jH6 h⟩
 | true =>
  cases jMf A x.Person with
  | false => exact ⟨_, rfl, jH6 h⟩
  | true =>
   refine ⟨_, rfl, ⟨⟨h.b.plan, h.b.now, h.b.hair, h.b.airg⟩, h.st, ?_, h.done⟩, rfl⟩
   show (jT8 pe x.Person).Perm (A.pp.filter fun q => !decide (q.1 = x.Person))
   rw [jRf]
   ·exact h.pe.filter _
   ·exact ((h.pe.map _).nodup_iff).2 (qW8 hpp)
omit hpp
include ho
theorem qZr {x : GEvent} : ∃ o, ((jYq N g st air pe x).bind fun y => some (y.1, air, pe, y.2)) = some o ∧ qXe p g (qJ4 p A x) o := by
 have hs := hp.s
 have hm := hp.m
 unfold jYq qJ4
 rw [h.b.plan, jMy hp hN, bS]
 simp only []
 cases jPu p x.Space with
 | false => exact ⟨_, rfl, jH6 h⟩
 | true =>
  simp only [Bool.not_true, cond_false]
  rw [qYw hp hN h, bS]
  have hmem : ∀ s ∈ jKg p A (fun y => !decide (y.Kind = 5) && decide (jUt p y.Space x.Space ≤ 1)), jUs p s = true := by
   intro s hs
   unfold jKg at hs
   obtain ⟨y, hy, rfl⟩ := List.mem_map.1 hs
   exact jBe.2 ⟨y, (List.mem_filter.1 hy).1, rfl⟩
  have hlen : (jKg p A (fun y => !decide (y.Kind = 5) && decide (jUt p y.Space x.Space ≤ 1))).length ≤ p.Permits.length := by
   unfold jKg; rw [List.length_map]; exact List.length_filter_le _ _
  have hin : ∀ s, jUs p s = true → inL (jKg p A (fun y => !decide (y.Kind = 5) && decide (jUt p y.Space x.Space ≤ 1))) s = (jUs p s && decide (stA A s = 2) && (!decide ((atP p s).Kind = 5) && decide (jUt p (atP p s).Space x.Space ≤ 1))) := by
   intro s hs
   rw [hs, Bool.true_and, Bool.eq_iff_iff, qV1]
   unfold jKg
   rw [List.mem_map]
   constructor
   ·rintro ⟨y, hy, rfl⟩
    obtain ⟨hy1, hy2⟩ := List.mem_filter.1 hy
    rw [ho.atP_at hy1]; exact hy2
   ·intro hb
    obtain ⟨h1, h2⟩ := jBa hs
    refine ⟨atP p s, List.mem_filter.2 ⟨h1, ?_⟩, h2⟩
    rw [h2]; exact hb
  generalize jKg p A (fun y => !decide (y.Kind = 5) && decide (jUt p y.Space x.Space ≤ 1)) = L at hmem hlen hin
  have key : ∃ st', jXz (jZe N g air pe L) N (0, st) = some st' ∧ RSt p (fun n => bif inL L n then ({ A.es n with state := 3 } : jJq) else A.es n) st' := by
   refine jMc (N := N) (n := L.length) (f := jZe N g air pe L) (s0 := (0, st)) (fun i s => s.1 = (i : Int) ∧ RSt p (fun n => bif inL (L.take i) n then ({ A.es n with state := 3 } : jJq) else A.es n) s.2) (fun st' => RSt p (fun n => bif inL L n then ({ A.es n with state := 3 } : jJq) else A.es n) st') ⟨rfl, h.st.congr fun s _ => by unfold inL; simp⟩ (fun i s hi hs => ?_) (fun s hs => ?_) (by omega)
   ·obtain ⟨s1, st'⟩ := s
    obtain ⟨rfl, hr⟩ := hs
    simp only [] at hr
    have hn := hmem _ (List.getElem_mem hi)
    refine ⟨_, by unfold jZe jQg; simp only []; rw [jJ9, dT (by omega), cond_true, jVx hi, bS, bS, jBc (by omega)], rfl, ?_⟩
    refine (hr.set hn _).congr fun s hs => ?_
    simp only []
    rw [hr.get _ hn]
    have htk : inL (L.take (i + 1)) s = (inL (L.take i) s || decide (s = L[i])) := by
     unfold inL; rw [List.take_succ_eq_append_getElem hi, List.any_append]; simp
    rw [htk]
    by_cases he : s = L[i]
    ·subst he
     rw [dT rfl, Bool.or_true, cond_true, cond_true]
     cases inL (L.take i) L[i] <;> rfl
    ·rw [dF he, Bool.or_false]; rfl
   ·obtain ⟨s1, st'⟩ := s
    obtain ⟨rfl, hr⟩ := hs
    refine ⟨st', ?_, ?_⟩
    ·unfold jZe
     simp only []
     rw [jJ9, dF (by omega), cond_false]
    ·rw [List.take_length] at hr; exact hr
  obtain ⟨st', h1, h2⟩ := key
  rw [h1]
  refine ⟨_, rfl, ⟨⟨h.b.plan, h.b.now, h.b.hair, h.b.airg⟩, h2.congr fun s hs => ?_, h.pe, h.done⟩, rfl⟩
  show _ = (bif jUs p s && decide (stA A s = 2) && (!decide ((atP p s).Kind = 5) && decide (jUt p (atP p s).Space x.Space ≤ 1)) then ({ A.es s with state := 3 } : jJq) else A.es s)
  rw [hin s hs]
end
end Go.KB
namespace Go.KB
set_option linter.unusedVariables false
instance : Inhabited jJb := ⟨⟨[], [], [], none⟩⟩
def qJ1 : List jJb := (jU8 0).getD []
theorem qWm {N : Nat} : jU8 N = some qJ1 := rfl
def jBj (op : Int) : jJb := qJ1[op.toNat]!
theorem jS4 {op : Int} (h0 : 0 ≤ op) (h12 : op < 12) : op = 0 ∨ op = 1 ∨ op = 2 ∨ op = 3 ∨ op = 4 ∨ op = 5 ∨ op = 6 ∨ op = 7 ∨ op = 8 ∨ op = 9 ∨ op = 10 ∨ op = 11 := by omega
theorem qYl {op : Int} (h0 : 0 ≤ op) (h12 : op < 12) : idx qJ1 op = some (jBj op) := by
 rcases jS4 h0 h12 with h | h | h | h | h | h | h | h | h | h | h | h <;> subst h <;> rfl
theorem qJz {op : Int} (h0 : 0 ≤ op) (h12 : op < 12) : (jBj op).states = (jMm op).getD [] := by
 rcases jS4 h0 h12 with h | h | h | h | h | h | h | h | h | h | h | h <;> subst h <;> rfl
theorem qZx {op : Int} {l : List Int} (h : jMm op = some l) : l.isEmpty = false ∧ l.length < 100 := by
 unfold jMm at h
 repeat' split at h
 all_goals first | (cases h; exact ⟨rfl, by decide⟩) | cases h
section
variable {N : Nat} {p : GPermitPlan} {A : AO} {g : jJx} {st : List (Str × jJq)} {air : List (Str × jJv)} {pe : List (Str × Str)} (hp : SmP p) (ho : OkP p) (hN : 1000000 ≤ N) (h : RelA p A g st air pe) (b : BdA A) (hpp : A.pp.Pairwise (fun a b => a.1 < b.1))
include hp hN h b hpp ho
theorem qWn {x : GEvent} (h0 : 0 ≤ x.Op) (h12 : x.Op < 12) (hh : jMm x.Op ≠ none → jUs p x.Name = true) : ∃ o, jMp N g st air pe (jBj x.Op).do_ x = some o ∧ qXe p g (qZh p A x) o := by
  unfold jMp qZh
  rcases jS4 h0 h12 with e | e | e | e | e | e | e | e | e | e | e | e
  · have hd : (jBj x.Op).do_ = some 125 := by rw [e]; rfl
    rw [hd]; simp only [e, Option.some.injEq, Nat.reduceEqDiff, decide_false, decide_true, cond_false, cond_true, if_false, Int.reduceEq]
    exact ⟨_, rfl, h, rfl⟩
  · have hd : (jBj x.Op).do_ = some 126 := by rw [e]; rfl
    have hx := hh (by rw [e]; decide)
    rw [hd]; simp only [e, Option.some.injEq, Nat.reduceEqDiff, decide_false, decide_true, cond_false, cond_true, if_false, Int.reduceEq]
    exact jAn hN h hx
  · have hd : (jBj x.Op).do_ = some 127 := by rw [e]; rfl
    have hx := hh (by rw [e]; decide)
    rw [hd]; simp only [e, Option.some.injEq, Nat.reduceEqDiff, decide_false, decide_true, cond_false, cond_true, if_false, Int.reduceEq]
    exact jCz hp ho hN h b hpp hx
  · have hd : (jBj x.Op).do_ = some 128 := by rw [e]; rfl
    have hx := hh (by rw [e]; decide)
    rw [hd]; simp only [e, Option.some.injEq, Nat.reduceEqDiff, decide_false, decide_true, cond_false, cond_true, if_false, Int.reduceEq]
    exact jSk h hx
  · have hd : (jBj x.Op).do_ = some 127 := by rw [e]; rfl
    have hx := hh (by rw [e]; decide)
    rw [hd]; simp only [e, Option.some.injEq, Nat.reduceEqDiff, decide_false, decide_true, cond_false, cond_true, if_false, Int.reduceEq]
    exact jCz hp ho hN h b hpp hx
  · have hd : (jBj x.Op).do_ = some 129 := by rw [e]; rfl
    have hx := hh (by rw [e]; decide)
    rw [hd]; simp only [e, Option.some.injEq, Nat.reduceEqDiff, decide_false, decide_true, cond_false, cond_true, if_false, Int.reduceEq]
    exact qXq hp hN h b hpp hx
  · have hd : (jBj x.Op).do_ = some 130 := by rw [e]; rfl
    have hx := hh (by rw [e]; decide)
    rw [hd]; simp only [e, Option.some.injEq, Nat.reduceEqDiff, decide_false, decide_true, cond_false, cond_true, if_false, Int.reduceEq]
    exact jSk h hx
  · have hd : (jBj x.Op).do_ = some 131 := by rw [e]; rfl
    rw [hd]; simp only [e, Option.some.injEq, Nat.reduceEqDiff, decide_false, decide_true, cond_false, cond_true, if_false, Int.reduceEq]
    exact qUc hp hN h
  · have hd : (jBj x.Op).do_ = some 132 := by rw [e]; rfl
    rw [hd]; simp only [e, Option.some.injEq, Nat.reduceEqDiff, decide_false, decide_true, cond_false, cond_true, if_false, Int.reduceEq]
    exact qVx hp hN h
  · have hd : (jBj x.Op).do_ = some 133 := by rw [e]; rfl
    rw [hd]; simp only [e, Option.some.injEq, Nat.reduceEqDiff, decide_false, decide_true, cond_false, cond_true, if_false, Int.reduceEq]
    exact qZ3 hN h hpp
  · have hd : (jBj x.Op).do_ = some 134 := by rw [e]; rfl
    rw [hd]; simp only [e, Option.some.injEq, Nat.reduceEqDiff, decide_false, decide_true, cond_false, cond_true, if_false, Int.reduceEq]
    exact qZr hp ho hN h
  · have hd : (jBj x.Op).do_ = some 135 := by rw [e]; rfl
    have hx := hh (by rw [e]; decide)
    rw [hd]; simp only [e, Option.some.injEq, Nat.reduceEqDiff, decide_false, decide_true, cond_false, cond_true, if_false, Int.reduceEq]
    exact qQ4 hN h hx
end
theorem RelA.setNow {p : GPermitPlan} {A : AO} {g : jJx} {st : List (Str × jJq)} {air : List (Str × jJv)} {pe : List (Str × Str)} (h : RelA p A g st air pe) (t : Int) : RelB p { A with now := t } ({ g with now := t } : jJx) air := ⟨h.b.plan, rfl, h.b.hair, h.b.airg⟩
def qXj (p : GPermitPlan) (A : AO) (x : GEvent) (G : AO × List Str × Int) : AO × List Str × Int := bif decide (G.2.2 = 0) then (({ jZf p G.1 with done := A.done ++ [x] } : AO), [], 0) else G
theorem qQr {p : GPermitPlan} {A S : AO} {x : GEvent} {e : Int} {l : List Str} (he : e ≠ 0) : qXj p A x (jL9 S e l) = jL9 S e l := by
 unfold qXj jL9
 simp only []
 rw [dF he]; rfl
theorem qQu {p : GPermitPlan} {A : AO} {x : GEvent} {G : AO × List Str × Int} (he : G.2.2 ≠ 0) : qXj p A x G = G := by
 unfold qXj; rw [dF he]; rfl
theorem qZn {p : GPermitPlan} {A : AO} {x : GEvent} {G : AO × List Str × Int} (he : G.2.2 = 0) : qXj p A x G = (({ jZf p G.1 with done := A.done ++ [x] } : AO), [], 0) := by
 unfold qXj; rw [dT he]; rfl
theorem Do_eq {N : Nat} {p : GPermitPlan} {A : AO} {g : jJx} {st : List (Str × jJq)} {air : List (Str × jJv)} {pe : List (Str × Str)} (hp : SmP p) (ho : OkP p) (hN : 1000000 ≤ N) (h : RelA p A g st air pe) (hi : qZj p A) (hd : A.done.length < 999999) (x : GEvent) :
    ∃ g' st' air' pe', jVs N g st air pe x = some (g', st', air', pe', (doA p A x).2.1, (doA p A x).2.2) ∧ RelA p (doA p A x).1 g' st' air' pe' := by
  have hlim : lim ≥ 10000000 := by decide
  have hm := hp.m
  obtain ⟨gp, gn, gd⟩ := g
  have hg : p = gp := h.b.plan.symm
  have hgn : gn = A.now := h.b.now
  have hgd : gd = A.done := h.done
  subst hg hgn hgd
  unfold jVs doA
  rw [qWm, bS]
  have hlen : (qJ1.length : Int) = 12 := rfl
  rw [hlen, jJ9, jD0]
  by_cases hr : x.Op < 0 ∨ 12 ≤ x.Op ∨ x.At < 0 ∨ 1000000 < x.At
  · have hr' : (decide (x.Op < 0) || decide (12 ≤ x.Op) || decide (x.At < 0) || decide (1000000 < x.At)) = true := by simpa [or_assoc] using hr
    rw [hr', cond_true]
    refine ⟨⟨p, A.now, A.done⟩, st, air, pe, ?_, h⟩
    unfold jU3
    rw [jD0, jDq]
    cases hc : (decide (x.Op < 0) || decide (12 ≤ x.Op)) with
    | true => rfl
    | false =>
      simp only [Bool.not_false, cond_true, bS, Bool.false_or]
      have : (decide (0 ≤ x.At) && decide (x.At ≤ 1000000)) = false := by
        rw [Bool.or_eq_false_iff, decide_eq_false_iff_not, decide_eq_false_iff_not] at hc
        rw [Bool.and_eq_false_iff, decide_eq_false_iff_not, decide_eq_false_iff_not]; omega
      rw [this]; rfl
  · have hr' : (decide (x.Op < 0) || decide (12 ≤ x.Op) || decide (x.At < 0) || decide (1000000 < x.At)) = false := by simp; omega
    rw [hr', cond_false]
    have hop : (decide (x.Op < 0) || decide (12 ≤ x.Op)) = false := by simp; omega
    have htm : jU3 N x.At = some true := by
      unfold jU3; rw [jD0, jDq, dT (by omega), dT (by omega)]; rfl
    rw [hop, htm]
    simp only [Bool.not_false, cond_true, bS, Bool.not_true, Bool.or_self, cond_false, jJ9]
    by_cases hlt : x.At < A.now
    · rw [dT hlt]; exact ⟨⟨p, A.now, A.done⟩, st, air, pe, rfl, h⟩
    rw [dF hlt, cond_false, cond_false]
    have hw0 := hi.w
    have hw : WA p A.done { A with now := x.At } := hw0.le (fun s => .inl rfl) (fun _ => rfl) ⟨by show A.now ≤ x.At; omega, by show x.At ≤ 1000000; omega⟩ hw0.pp (fun s t e => .inl e) hw0.pl
    have hb0 : BdA { A with now := x.At } := hw.bd (by omega)
    obtain ⟨st1, e1, r1⟩ := jPe (pe := pe) hp ho hN (h.setNow x.At) h.st hb0
    rw [e1, bS, qYl (by omega) (by omega), bS, qJz (by omega) (by omega)]
    have hS : RelA p (jZf p { A with now := x.At }) (⟨p, x.At, A.done⟩ : jJx) st1 air pe := ⟨⟨rfl, rfl, h.b.hair, h.b.airg⟩, r1, h.pe, h.done⟩
    have hbS : BdA (jZf p { A with now := x.At }) := hb0.settle
    have hiS : qZj p (jZf p { A with now := x.At }) := jLa ho hw
    have hact : ∀ (G : AO × List Str × Int), (∃ o, jMp N (⟨p, x.At, A.done⟩ : jJx) st1 air pe (jBj x.Op).do_ x = some o ∧ qXe p (⟨p, x.At, A.done⟩ : jJx) G o) → StepA p (jZf p { A with now := x.At }) x G → ∃ g' st' air' pe', ((jMp N (⟨p, x.At, A.done⟩ : jJx) st1 air pe (jBj x.Op).do_ x).bind fun v14 => bif (jJy .neq v14.2.2.2.e 0) then (some ((⟨p, x.At, A.done⟩ : jJx), v14.1, v14.2.1, v14.2.2.1, v14.2.2.2.names, v14.2.2.2.e)) else ((jZs N (⟨p, x.At, A.done⟩ : jJx) v14.1 v14.2.1 v14.2.2.1).bind fun v15 => (app A.done [x]).bind fun v16 => some ((⟨p, x.At, v16⟩ : jJx), v15, v14.2.1, v14.2.2.1, ([] : List Str), (0 : Int)))) = some (g', st', air', pe', (qXj p A x G).2.1, (qXj p A x G).2.2) ∧ RelA p (qXj p A x G).1 g' st' air' pe' := by
      rintro G ⟨⟨a1, a2, a3, a4⟩, ho1, ho2⟩ hstep
      rw [ho1, bS]
      have hrel := ho2.rel
      have href : a4 = ⟨G.2.1, G.2.2⟩ := ho2.ref
      simp only [] at hrel
      subst href
      simp only [jBl]
      by_cases h0 : G.2.2 = 0
      · rw [dT h0, qZn h0]
        simp only [Bool.not_true, cond_false]
        have hw2 := hstep.2.1 _ hiS.w
        have hdn : (jZf p { A with now := x.At }).done = A.done := rfl
        have hb2 : BdA G.1 := hw2.bd (by rw [List.length_append, hdn]; simp only [List.length_singleton]; omega)
        obtain ⟨st2, e2, r2⟩ := jPe (pe := a3) hp ho hN hrel.b hrel.st hb2
        rw [e2, bS, qXr (by simp only [List.length_singleton]; omega), bS]
        exact ⟨_, _, _, _, rfl, ⟨hrel.b.plan, hrel.b.now, hrel.b.hair, hrel.b.airg⟩, r2, hrel.pe, rfl⟩
      · rw [dF h0, qQu h0]
        exact ⟨_, _, _, _, rfl, hrel⟩
    have hdeed := fun hh => qWn hp ho hN hS hbS hiS.w.pp (x := x) (by omega) (by omega) hh
    have hstep := jTd ho (A := jZf p { A with now := x.At }) (x := x) (by omega) (by omega)
    show ∃ g' st' air' pe', _ = some (g', st', air', pe', (qXj p A x (qWy p (jZf p { A with now := x.At }) x)).2.1, (qXj p A x (qWy p (jZf p { A with now := x.At }) x)).2.2) ∧ RelA p (qXj p A x (qWy p (jZf p { A with now := x.At }) x)).1 g' st' air' pe'
    unfold qWy at hstep ⊢
    cases hs : jMm x.Op with
    | none =>
      rw [hs] at hstep
      simp only [Option.getD_none, List.isEmpty_nil, Bool.not_true, cond_false, bS, Sum.elim_inl]
      exact hact _ (hdeed fun hn => absurd hs hn) hstep
    | some l =>
      rw [hs] at hstep
      obtain ⟨hl1, hl2⟩ := qZx hs
      simp only [Option.getD_some, hl1, Bool.not_false, cond_true] at hstep ⊢
      rw [jTs hp hN, bS]
      simp only []
      cases hh : jUs p x.Name with
      | false => simp only [Bool.not_false, cond_true]; rw [qQr (by decide)]; exact ⟨_, _, _, _, rfl, hS⟩
      | true =>
        rw [hh] at hstep
        simp only [Bool.not_true, cond_false] at hstep ⊢
        rw [jP1 hN r1 hh hl2, bS]
        cases hc : l.contains (stA (jZf p { A with now := x.At }) x.Name) with
        | false => simp only [Bool.not_false, cond_true]; rw [qQr (by decide)]; exact ⟨_, _, _, _, rfl, hS⟩
        | true =>
          rw [hc] at hstep
          simp only [Bool.not_true, cond_false, bS, Sum.elim_inl] at hstep ⊢
          exact hact _ (hdeed fun _ => hh) hstep
end Go.KB
namespace Go.KB
set_option linter.unusedVariables false
theorem fit_eq {N : Nat} (p : GPermitPlan) (hN : 1000000 ≤ N) : jHw N p = some false ∨ (jHw N p = some true ∧ SmP p ∧ jYx p = 0 ∧ p.Spaces.length ≤ 8 ∧ p.Permits.length ≤ 8 ∧ p.Exclusions.length ≤ 12) := by
 unfold jHw
 rcases qYk p hN with hg | ⟨hg, hp, _⟩
 ·rw [hg]; exact .inl rfl
 ·rw [hg, bS, Bool.not_false, cond_true, jTb hp hN, bS, Bool.true_and]
  simp only [jGl, jDq]
  by_cases h : jYx p = 0 ∧ p.Spaces.length ≤ 8 ∧ p.Permits.length ≤ 8 ∧ p.Exclusions.length ≤ 12
  ·refine .inr ⟨?_, hp, h⟩
   rw [dT h.1, dT (by omega), dT (by omega), dT (by omega)]; rfl
  ·refine .inl ?_
   congr 1
   rw [Bool.eq_false_iff]
   intro hx
   simp only [Bool.and_eq_true, decide_eq_true_eq] at hx
   exact h (by omega)
section
variable {N : Nat} {p : GPermitPlan} {A : AO} {g : jJx} {st : List (Str × jJq)} {air : List (Str × jJv)} {pe : List (Str × Str)}
theorem qKs (hp : SmP p) (hN : 1000000 ≤ N) (h : RelA p A g st air pe) : jYn N g st air pe = some (jKg p A fun _ => true) := by
 unfold jYn
 rw [jS1 hp hN h (φ := fun y0 => jVt N y0) (so := fun _ => true) (fun _ _ => rfl)]; rfl
end
theorem do_done {p : GPermitPlan} (ho : OkP p) {A : AO} {x : GEvent} : (doA p A x).1.done.length ≤ A.done.length + 1 := by
  unfold doA
  by_cases hr : x.Op < 0 ∨ 12 ≤ x.Op ∨ x.At < 0 ∨ 1000000 < x.At
  · have hr' : (decide (x.Op < 0) || decide (12 ≤ x.Op) || decide (x.At < 0) || decide (1000000 < x.At)) = true := by simpa [or_assoc] using hr
    rw [hr']; exact Nat.le_succ _
  · have hr' : (decide (x.Op < 0) || decide (12 ≤ x.Op) || decide (x.At < 0) || decide (1000000 < x.At)) = false := by simp; omega
    rw [hr', cond_false]
    cases decide (x.At < A.now) with
    | true => exact Nat.le_succ _
    | false =>
      obtain ⟨_, _, _, s4, _⟩ := jTd ho (A := jZf p { A with now := x.At }) (x := x) (by omega) (by omega)
      show (qXj p A x (qWy p (jZf p { A with now := x.At }) x)).1.done.length ≤ _
      by_cases h0 : (qWy p (jZf p { A with now := x.At }) x).2.2 = 0
      · rw [qZn h0]; show (A.done ++ [x]).length ≤ _; simp
      · rw [qQu h0, s4]; exact Nat.le_succ _
structure RunI (p : GPermitPlan) (i : Nat) (A : AO) (g : jJx) (st : List (Str × jJq)) (air : List (Str × jJv)) (pe : List (Str × Str)) : Prop where
 rel : RelA p A g st air pe
 inv : qZj p A
 len : A.done.length ≤ i
theorem RunI.bd {p : GPermitPlan} {i : Nat} {A : AO} {g : jJx} {st : List (Str × jJq)} {air : List (Str × jJv)} {pe : List (Str × Str)} (h : RunI p i A g st air pe) (hi : i < 1000000) : BdA A := h.inv.w.bd (Nat.lt_of_le_of_lt h.len hi)
theorem qK7 {N : Nat} {p : GPermitPlan} (hp : SmP p) (ho : jYx p = 0) (hN : 1000000 ≤ N) : ∃ st, jK9 N p = some (some ((⟨p, 0, []⟩ : jJx), st, [], []), 0) ∧ RunI p 0 (newA p) (⟨p, 0, []⟩ : jJx) st [] [] := by
 obtain ⟨st, h1, h2⟩ := New_eq hp ho hN
 exact ⟨st, h1, h2, qUf (okP ho), Nat.le_refl _⟩
theorem run_do {N : Nat} {p : GPermitPlan} {i : Nat} {A : AO} {g : jJx} {st : List (Str × jJq)} {air : List (Str × jJv)} {pe : List (Str × Str)} (hp : SmP p) (ho : OkP p) (hN : 1000000 ≤ N) (h : RunI p i A g st air pe) (hi : i < 1000) (x : GEvent) :
  ∃ g' st' air' pe', jVs N g st air pe x = some (g', st', air', pe', (doA p A x).2.1, (doA p A x).2.2) ∧ RunI p (i + 1) (doA p A x).1 g' st' air' pe' := by
 have hl := h.len
 obtain ⟨g', st', air', pe', h1, h2⟩ := Do_eq hp ho hN h.rel h.inv (by omega) x
 exact ⟨g', st', air', pe', h1, h2, (inv_do ho h.inv).1, Nat.le_trans (do_done ho) (by omega)⟩
end Go.KB
