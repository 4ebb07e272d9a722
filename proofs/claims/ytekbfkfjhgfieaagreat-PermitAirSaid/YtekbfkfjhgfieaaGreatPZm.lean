/- Plain laws of chapter 7: what a valid plan is, nearness, exclusion, needs. Plain laws of chapter 7: loops that filter, find and delete. Plain laws of chapter 7: near and needs of the program. Plain laws of chapter 7: what an office does, by names. No condition. -/
import Derived.Test.YtekbfkfjhgfieaaGreatPZl
namespace Go.KB
set_option linter.unusedVariables false
def inL (l : List Str) (s : Str) : Bool := l.any (fun x => decide (s = x))
theorem qVh {l : List Str} {s : Str} : inL l s = true ↔ s ∈ l := by
 unfold inL; rw [List.any_eq_true]
 constructor
 ·rintro ⟨x, h1, h2⟩; rw [decide_eq_true_eq] at h2; rw [h2]; exact h1
 ·intro h; exact ⟨s, h, by simp⟩
theorem qYh {p : GPermitPlan} {s : Str} : jM3 p s = true ↔ ∃ y ∈ p.Spaces, y.Name = s := by
 unfold jM3; rw [List.any_eq_true]; simp [isS]
theorem jBq {p : GPermitPlan} {s : Str} : jUm p s = true ↔ ∃ y ∈ p.Permits, y.Name = s := by
 unfold jUm; rw [List.any_eq_true]; simp [isP]
theorem jSr {α : Type} {z : α} {g : α → Bool} {l : List α} (h : l.any g = true) : (jFj z g l).1 ∈ l ∧ g (jFj z g l).1 = true := by
 unfold jFj
 cases h2 : l.find? g with
 | none => rw [List.any_eq_true] at h; obtain ⟨x, hx, hg⟩ := h; exact absurd hg (by simpa using List.find?_eq_none.1 h2 x hx)
 | some y => exact ⟨List.mem_of_find?_eq_some h2, List.find?_some h2⟩
theorem qQb {p : GPermitPlan} {s : Str} (h : jM3 p s = true) : atS p s ∈ p.Spaces ∧ (atS p s).Name = s := by
 have := jSr (z := (⟨[], false, []⟩ : jJ5)) h
 exact ⟨this.1, of_decide_eq_true this.2⟩
theorem jDa {p : GPermitPlan} {s : Str} (h : jUm p s = true) : atP p s ∈ p.Permits ∧ (atP p s).Name = s := by
 have := jSr (z := (⟨[], 0, [], 0, 0, []⟩ : jJu)) h
 exact ⟨this.1, of_decide_eq_true this.2⟩
structure OkP (p : GPermitPlan) : Prop where
 ns : p.Spaces.length ≤ 30
 ne : p.Exclusions.length ≤ 30
 np : p.Permits.length ≤ 20
 gm : 1 ≤ p.GasMinutes ∧ p.GasMinutes ≤ 10000
 sn : ∀ y ∈ p.Spaces, jWb y.Name = true
 sd : ∀ i j, i < p.Spaces.length → j < p.Spaces.length → p.Spaces[i]!.Name = p.Spaces[j]!.Name → i = j
 nx : ∀ y ∈ p.Spaces, ∀ n ∈ y.Next, jM3 p n = true ∧ n ≠ y.Name
 xk : ∀ e ∈ p.Exclusions, jD9 e.A = true ∧ jD9 e.B = true ∧ 0 ≤ e.Reach ∧ e.Reach ≤ 2
 pn : ∀ y ∈ p.Permits, jWb y.Name = true
 pd : ∀ i j, i < p.Permits.length → j < p.Permits.length → p.Permits[i]!.Name = p.Permits[j]!.Name → i = j
 pk : ∀ y ∈ p.Permits, jD9 y.Kind = true ∧ 0 ≤ y.From ∧ y.From < y.To ∧ y.To ≤ 1000000 ∧ jM3 p y.Space = true
 lk : ∀ y ∈ p.Permits, ∀ l ∈ y.Locks, jUm p l = true ∧ (atP p l).Kind = 5 ∧ y.Kind ≠ 5
theorem qYc {a b : Int} (h : jC2 a b = 0) : a = 0 ∧ b = 0 := by
 unfold jC2 at h
 by_cases h0 : a = 0
 ·rw [if_pos h0] at h; exact ⟨h0, h⟩
 ·rw [if_neg h0] at h; exact absurd h h0
theorem jLm {α : Type} [Inhabited α] {l : List α} {e : Nat → Int} {y : α} (h : jXx e l.length 0 = 0) (hy : y ∈ l) : ∃ i, i < l.length ∧ l[i]! = y ∧ e i = 0 := by
 obtain ⟨i, hi, rfl⟩ := List.getElem_of_mem hy
 exact ⟨i, hi, jTr hi, jFp h i (by omega) (by omega)⟩
theorem qVv {nm : Nat → Str} {n : Nat} (h : ∀ i, i < n → dup nm i (nm i) = false) : ∀ i j, i < n → j < n → nm i = nm j → i = j := by
 have key : ∀ i j, i < j → j < n → nm i ≠ nm j := fun i j hij hj he => by
  have := (jA8 nm (nm j) j).2 ⟨i, hij, he⟩
  rw [h j hj] at this; cases this
 intro i j hi hj he
 rcases Nat.lt_trichotomy i j with h1 | h1 | h1
 ·exact absurd he (key i j h1 hj)
 ·exact h1
 ·exact absurd he.symm (key j i h1 hi)
theorem eSp0 {p : GPermitPlan} {i : Nat} (h : eSp p i = 0) : jWb (nmS p i) = true ∧ dup (nmS p) i (nmS p i) = false := by
 unfold eSp at h
 split at h
 ·cases h
 ·rename_i h1
  split at h
  ·cases h
  ·rename_i h2; exact ⟨by simpa using h1, by simpa using h2⟩
theorem ePm0 {p : GPermitPlan} {i : Nat} (h : ePm p i = 0) : jWb (nmP p i) = true ∧ dup (nmP p) i (nmP p i) = false ∧ jD9 p.Permits[i]!.Kind = true ∧ 0 ≤ p.Permits[i]!.From ∧ p.Permits[i]!.From < p.Permits[i]!.To ∧ p.Permits[i]!.To ≤ 1000000 ∧ jM3 p p.Permits[i]!.Space = true := by
 unfold ePm at h
 split at h
 ·cases h
 ·rename_i h1
  split at h
  ·cases h
  ·rename_i h2
   split at h
   ·cases h
   ·rename_i h3
    split at h
    ·cases h
    ·rename_i h4
     simp only [not_or] at h3
     refine ⟨by simpa using h1, by simpa using h2, by simpa using h3.1, by omega, by omega, by omega, by simpa using h4⟩
theorem okP {p : GPermitPlan} (h : jWs p = 0) : OkP p := by
 unfold jWs at h
 split at h
 ·cases h
 rename_i hb
 split at h
 ·cases h
 rename_i hg
 obtain ⟨h1, h2⟩ := qYc h
 obtain ⟨h1, h3⟩ := qYc h1
 obtain ⟨h4, h5⟩ := qYc h2
 obtain ⟨h5, h6⟩ := qYc h5
 refine ⟨by omega, by omega, by omega, by omega, ?_, ?_, ?_, ?_, ?_, ?_, ?_, ?_⟩
 ·intro y hy; obtain ⟨i, hi, rfl, he⟩ := jLm h1 hy; exact (eSp0 he).1
 ·exact qVv (nm := nmS p) fun i hi => (eSp0 (jFp h1 i (by omega) (by omega))).2
 ·intro y hy n hn
  obtain ⟨i, hi, rfl, he⟩ := jLm h3 hy
  obtain ⟨j, hj, rfl, he⟩ := jLm he hn
  unfold eNx at he
  split at he
  ·cases he
  ·rename_i a
   split at he
   ·cases he
   ·rename_i b; exact ⟨by simpa using a, b⟩
 ·intro y hy
  obtain ⟨i, hi, rfl, he⟩ := jLm h4 hy
  unfold eEx at he
  split at he
  ·cases he
  ·rename_i a; simp only [not_or] at a; exact ⟨by simpa using a.1, by simpa using a.2.1, by omega, by omega⟩
 ·intro y hy; obtain ⟨i, hi, rfl, he⟩ := jLm h5 hy; exact (ePm0 he).1
 ·exact qVv (nm := nmP p) fun i hi => (ePm0 (jFp h5 i (by omega) (by omega))).2.1
 ·intro y hy; obtain ⟨i, hi, rfl, he⟩ := jLm h5 hy; exact (ePm0 he).2.2
 ·intro y hy n hn
  obtain ⟨i, hi, rfl, he⟩ := jLm h6 hy
  obtain ⟨j, hj, rfl, he⟩ := jLm he hn
  unfold eLk at he
  split at he
  ·cases he
  ·rename_i a
   split at he
   ·cases he
   ·rename_i b; simp only [not_or] at b; exact ⟨by simpa using a, by simpa using b.1, b.2⟩
theorem OkP.sm {p : GPermitPlan} {N : Nat} (hp : SmP p) : SmP p := hp
theorem OkP.atP_at {p : GPermitPlan} (h : OkP p) {x : jJu} (hx : x ∈ p.Permits) : atP p x.Name = x := by
 have h1 : jUm p x.Name = true := jBq.2 ⟨x, hx, rfl⟩
 obtain ⟨h2, h3⟩ := jDa h1
 obtain ⟨i, hi, he⟩ := List.getElem_of_mem h2
 obtain ⟨j, hj, hf⟩ := List.getElem_of_mem hx
 have := h.pd i j hi hj (by rw [jTr hi, jTr hj, he, hf, h3])
 subst this
 rw [← he, hf]
theorem qK0 {α : Type} [Inhabited α] {g : α → Bool} {l : List α} (z : α) (h : l.any g = true) : ∃ i, i < l.length ∧ ixI g l = (i : Int) ∧ l[i]! = (jFj z g l).1 ∧ g l[i]! = true := by
 rcases jS7 (g := g) (l := l) with ⟨_, h1, h2⟩ | ⟨h1, h2⟩
 ·refine ⟨l.findIdx g, h1, jFt h1, ?_, ?_⟩
  ·unfold jFj; rw [h2, jTr h1]
  ·rw [jTr h1]; exact List.findIdx_getElem
 ·rw [List.any_eq_true] at h; obtain ⟨x, hx, hg⟩ := h
  exact absurd hg (by simpa using List.find?_eq_none.1 h2 x hx)
theorem ixP {p : GPermitPlan} {s : Str} (h : jUm p s = true) : ∃ i, i < p.Permits.length ∧ ixI (isP s) p.Permits = (i : Int) ∧ p.Permits[i]! = atP p s := by
 obtain ⟨i, h1, h2, h3, _⟩ := qK0 (⟨[], 0, [], 0, 0, []⟩ : jJu) h
 exact ⟨i, h1, h2, h3⟩
def jUl (p : GPermitPlan) (a b : Str) : Int := if a = b then 0 else bif inL (atS p a).Next b || inL (atS p b).Next a then 1 else 2
theorem qXj (p : GPermitPlan) (a b : Str) : jUl p a b = jUl p b a := by
 unfold jUl
 by_cases h : a = b
 ·subst h; rfl
 ·rw [if_neg h, if_neg (fun x => h x.symm), Bool.or_comm]
def exE (e : jJt) (d k m : Int) : Bool := decide (d ≤ e.Reach) && ((decide (e.A = k) && decide (e.B = m)) || (decide (e.A = m) && decide (e.B = k)))
theorem qYp (e : jJt) (d k m : Int) : exE e d k m = exE e d m k := by unfold exE; rw [Bool.or_comm]
def jBv (p : GPermitPlan) (x y : jJu) : Bool := bif decide (x.Name = y.Name) then false else p.Exclusions.any (fun e => exE e (jUl p x.Space y.Space) x.Kind y.Kind)
theorem jNm (p : GPermitPlan) (x y : jJu) : jBv p x y = jBv p y x := by
 unfold jBv
 rw [qXj p y.Space x.Space, show decide (y.Name = x.Name) = decide (x.Name = y.Name) from decide_eq_decide.2 ⟨Eq.symm, Eq.symm⟩]
 congr 2
 funext e
 exact qYp ..
theorem qXp (p : GPermitPlan) (x : jJu) : jBv p x x = false := by unfold jBv; simp
def jPz (x : jJu) : Bool := decide (x.Kind = 0) || (decide (x.Kind = 1) || decide (x.Kind = 2))
def jFv (p : GPermitPlan) (x : jJu) : List Str := (bif jPz x && (atS p x.Space).Enclosed then [(atS p x.Space).Name] else []) ++ (bif decide (x.Kind = 0) then (p.Spaces.filter (fun s => s.Enclosed && decide (jUl p s.Name (atS p x.Space).Name = 1))).map (fun s => s.Name) else [])
def ConfR (p : GPermitPlan) (a b : Str) : Bool × Int := if jWs p ≠ 0 then (false, jWs p) else bif !jUm p a || !jUm p b then (false, 6) else (jBv p (atP p a) (atP p b), 0)
def qKe (p : GPermitPlan) (a : Str) : List Str × Int := if jWs p ≠ 0 then ([], jWs p) else bif !jUm p a then ([], 6) else (jFv p (atP p a), 0)
end Go.KB
namespace Go.KB
set_option linter.unusedVariables false
theorem qQ6 {α : Type} {xs ys : List α} (h : xs.length + ys.length ≤ lim) : app xs ys = some (xs ++ ys) := by
 unfold app; rw [Nat.ble_eq_true_of_le h]; rfl
theorem jRh {S O : Type} {n N : Nat} {f : S → Option (S ⊕ O)} (g : Nat → S) (r : O) (h : ∀ i : Nat, i < n → f (g i) = some (.inl (g (i + 1)))) (he : f (g n) = some (.inr r)) (hN : n < N) : jXh f N (g 0) = some r := by
 have key : ∀ k i, i + k = n → ∀ M, k < M → jXh f M (g i) = some r := by
  intro k
  induction k with
  | zero =>
   intro i hi M hM
   obtain ⟨M, rfl⟩ : ∃ m, M = m + 1 := ⟨M - 1, by omega⟩
   have : i = n := by omega
   subst this
   simp only [jXh, he]
  | succ k ih =>
   intro i hi M hM
   obtain ⟨M, rfl⟩ : ∃ m, M = m + 1 := ⟨M - 1, by omega⟩
   simp only [jXh, h i (by omega)]
   exact ih (i + 1) (by omega) M (by omega)
 exact key n 0 (by omega) N (by omega)
theorem qQ7 {S O α T : Type} {N : Nat} {f : S → Option (S ⊕ O)} (l : List α) (t0 : T) (stp : T → α → T) (mk : T → Int → S) (out : T → O) (hf : ∀ (i : Nat) (hi : i < l.length) (t : T), t = (l.take i).foldl stp t0 → f (mk t (i : Int)) = some (.inl (mk (stp t l[i]) ((i + 1 : Nat) : Int)))) (he : ∀ t, f (mk t (l.length : Int)) = some (.inr (out t))) (hN : l.length < N) : jXh f N (mk t0 0) = some (out (l.foldl stp t0)) := by
 refine jRh (n := l.length) (fun i => mk ((l.take i).foldl stp t0) (i : Int)) _ (fun i hi => ?_) ?_ hN
 ·rw [hf i hi _ rfl, List.take_succ_eq_append_getElem hi, List.foldl_append]; rfl
 ·rw [List.take_length]; exact he _
theorem foldl_filter {α β : Type} (g : α → Bool) (h : α → β) : ∀ (l : List α) (a : List β), l.foldl (fun acc x => bif g x then acc ++ [h x] else acc) a = a ++ (l.filter g).map h
  | [], a => by simp
  | x :: r, a => by
    simp only [List.foldl_cons, foldl_filter g h r, List.filter_cons]
    cases g x <;> simp
theorem qVu {α β : Type} (g : α → Bool) (h : α → β) : ∀ (l : List α) (a : List β), (l.foldl (fun acc x => bif g x then acc ++ [h x] else acc) a).length ≤ a.length + l.length := fun l a => by
 rw [foldl_filter, List.length_append, List.length_map]
 have := List.length_filter_le g l
 omega
theorem qVe {S O α β : Type} {N : Nat} {f : S → Option (S ⊕ O)} (l : List α) (a : List β) (g : α → Bool) (h : α → β) (mk : List β → Int → S) (out : List β → O) (hf : ∀ (i : Nat) (hi : i < l.length) (acc : List β), acc.length ≤ a.length + l.length → f (mk acc (i : Int)) = some (.inl (mk (bif g l[i] then acc ++ [h l[i]] else acc) ((i + 1 : Nat) : Int)))) (he : ∀ t, f (mk t (l.length : Int)) = some (.inr (out t))) (hN : l.length < N) : jXh f N (mk a 0) = some (out (a ++ (l.filter g).map h)) := by
 rw [qQ7 (f := f) l a (fun acc x => bif g x then acc ++ [h x] else acc) mk out (fun i hi t ht => ?_) he hN, foldl_filter]
 refine hf i hi t ?_
 rw [ht]
 have := qVu g h (l.take i) a
 rw [List.length_take] at this
 omega
theorem qKd {α : Type} {l : List α} {a b : Nat} (h : a ≤ b) (hb : b ≤ l.length) : slc l (a : Int) (b : Int) = some ((l.take b).drop a) := by
 unfold slc
 rw [dT (by omega), dT (by omega), dT (by omega)]; rfl
theorem qY0 {N : Nat} {f : (List Str × Int × Int) → Option ((List Str × Int × Int) ⊕ (List Str × Int))} {l : List Str} {g : Str → Bool} (hf : ∀ (xs : List Str) (i j : Nat), (hj : j < xs.length) → i ≤ j → j < 1000000 → xs[j] ∈ l → f (xs, (i : Int), (j : Int)) = bif !g xs[j] then some (.inl (xs.set i xs[j], ((i + 1 : Nat) : Int), ((j + 1 : Nat) : Int))) else some (.inl (xs, (i : Int), ((j + 1 : Nat) : Int)))) (he : ∀ (xs : List Str) (i : Int), f (xs, i, (xs.length : Int)) = some (.inr (xs, i))) (hl : l.length < 1000000) (hN : 1000000 ≤ N) {i0 : Nat} (h0 : i0 < l.length) (hi : l.findIdx g = i0) :
    ∃ xs, jXh f N (l, (i0 : Int), ((i0 + 1 : Nat) : Int)) = some (xs, ((l.filter fun s => !g s).length : Int)) ∧ xs.length = l.length ∧ xs.take (l.filter fun s => !g s).length = l.filter fun s => !g s := by
  have key : ∀ k i j xs, j + k = l.length → i ≤ j → xs.length = l.length → xs.take i = (l.take j).filter (fun s => !g s) → xs.drop j = l.drop j → i = ((l.take j).filter (fun s => !g s)).length → ∀ M, k < M →
      ∃ ys, jXh f M (xs, (i : Int), (j : Int)) = some (ys, ((l.filter fun s => !g s).length : Int)) ∧ ys.length = l.length ∧ ys.take (l.filter fun s => !g s).length = l.filter fun s => !g s := by
    intro k
    induction k with
    | zero =>
      intro i j xs hj hij hx h1 h2 h3 M hM
      obtain ⟨M, rfl⟩ : ∃ m, M = m + 1 := ⟨M - 1, by omega⟩
      have : j = xs.length := by omega
      subst this
      rw [hx, List.take_length] at h1 h3
      refine ⟨xs, ?_, hx, by rw [← h3]; exact h1⟩
      simp only [jXh, he, h3]
    | succ k ih =>
      intro i j xs hj hij hx h1 h2 h3 M hM
      obtain ⟨M, rfl⟩ : ∃ m, M = m + 1 := ⟨M - 1, by omega⟩
      have hjx : j < xs.length := by omega
      have hjl : j < l.length := by omega
      have hxj : xs[j] = l[j] := by
        have := congrArg (fun l => l[0]?) h2
        simp only [List.getElem?_drop, Nat.add_zero] at this
        rw [List.getElem?_eq_getElem hjx, List.getElem?_eq_getElem hjl] at this
        exact Option.some.inj this
      have hd : xs.drop (j + 1) = l.drop (j + 1) := by rw [← List.drop_drop, ← List.drop_drop, h2]
      simp only [jXh, hf xs i j hjx hij (by omega) (by rw [hxj]; exact List.getElem_mem hjl)]
      rw [hxj]
      have htk : (l.take (j + 1)).filter (fun s => !g s) = (l.take j).filter (fun s => !g s) ++ [l[j]].filter (fun s => !g s) := by
        rw [List.take_succ_eq_append_getElem hjl, List.filter_append]
      cases hg : g l[j] with
      | false =>
        have hone : [l[j]].filter (fun s => !g s) = [l[j]] := by simp [hg]
        rw [hone] at htk
        simp only [Bool.not_false, cond_true]
        refine ih (i + 1) (j + 1) (xs.set i l[j]) (by omega) (by omega) (by simpa using hx) ?_ ?_ ?_ M (by omega)
        · rw [htk, ← h1, List.take_succ_eq_append_getElem (by simp; omega), List.take_set_of_le (Nat.le_refl _)]
          simp
        · rw [List.drop_set_of_lt (by omega)]; exact hd
        · rw [htk, List.length_append, ← h3]; rfl
      | true =>
        have hone : [l[j]].filter (fun s => !g s) = [] := by simp [hg]
        rw [hone, List.append_nil] at htk
        simp only [Bool.not_true, cond_false]
        exact ih i (j + 1) xs (by omega) (by omega) hx (by rw [htk]; exact h1) hd (by rw [htk]; exact h3) M (by omega)
  have hpre : (l.take i0).filter (fun s => !g s) = l.take i0 := by
    refine List.filter_eq_self.2 fun a ha => ?_
    obtain ⟨j, hj, rfl⟩ := List.getElem_of_mem ha
    rw [List.length_take] at hj
    have := List.not_of_lt_findIdx (p := g) (xs := l) (i := j) (by omega)
    rw [List.getElem_take]
    simpa using this
  have hat : g l[i0] = true := by subst hi; exact List.findIdx_getElem
  refine key (l.length - (i0 + 1)) i0 (i0 + 1) l (by omega) (by omega) rfl ?_ rfl ?_ N (by omega)
  · rw [List.take_succ_eq_append_getElem h0, List.filter_append, hpre]; simp [hat]
  · rw [List.take_succ_eq_append_getElem h0, List.filter_append, hpre]; simp [hat]; omega
theorem del_eq {N : Nat} {f : (List Str × Int × Int) → Option ((List Str × Int × Int) ⊕ (List Str × Int))} {l : List Str} {g : Str → Bool} (hf : ∀ (xs : List Str) (i j : Nat), (hj : j < xs.length) → i ≤ j → j < 1000000 → xs[j] ∈ l → f (xs, (i : Int), (j : Int)) = bif !g xs[j] then some (.inl (xs.set i xs[j], ((i + 1 : Nat) : Int), ((j + 1 : Nat) : Int))) else some (.inl (xs, (i : Int), ((j + 1 : Nat) : Int)))) (he : ∀ (xs : List Str) (i : Int), f (xs, i, (xs.length : Int)) = some (.inr (xs, i))) (hl : l.length < 1000000) (hN : 1000000 ≤ N) :
    (bif (jJy .eql (ixI g l) (-1)) then (some l) else ((jXh f N (l, ixI g l, (IntKind.i64.wrap (ixI g l + 1)))).bind fun o8 => (slc o8.1 o8.2 (List.length o8.1 : Int)).bind fun v10 => (bif Nat.beq ((Int.toNat o8.2) + (Int.toNat (List.length o8.1 : Int) - Int.toNat o8.2)) (List.length o8.1) then some (List.take (Int.toNat o8.2) o8.1 ++ List.replicate (Int.toNat (List.length o8.1 : Int) - Int.toNat o8.2) []) else none).bind fun v11 => (slc v11 0 o8.2).bind fun v12 => some v12)) = some (l.filter fun s => !g s) := by
  rw [jUt]
  by_cases h : l.findIdx g < l.length
  · rw [jFt h, dF (by omega), cond_false, jDb (by omega)]
    obtain ⟨xs, h1, h2, h3⟩ := qY0 hf he hl hN h rfl
    rw [h1, bS]
    simp only []
    have hk : (l.filter fun s => !g s).length ≤ xs.length := by rw [h2]; exact List.length_filter_le _ _
    generalize hkk : (l.filter fun s => !g s).length = k at h3 hk
    rw [qKd hk (Nat.le_refl _), bS, Int.toNat_natCast, Int.toNat_natCast, show Nat.beq (k + (xs.length - k)) xs.length = true from by rw [Nat.beq_eq]; omega, cond_true, bS]
    have e0 : slc (List.take k xs ++ List.replicate (xs.length - k) []) 0 (k : Int) = some (((List.take k xs ++ List.replicate (xs.length - k) []).take k).drop 0) := qKd (a := 0) (Nat.zero_le _) (by simp; omega)
    rw [e0, bS, List.drop_zero, List.take_append_of_le_length (by simp; omega), List.take_take, Nat.min_self, h3]
  · rw [jMq h, dT rfl, cond_true]
    congr 1
    refine (List.filter_eq_self.2 fun a ha => ?_).symm
    cases hg : g a with
    | false => rfl
    | true => exact absurd (List.findIdx_lt_length.2 ⟨a, ha, hg⟩) h
end Go.KB
namespace Go.KB
set_option linter.unusedVariables false
theorem jTv {N : Nat} {l : List Str} {s : Str} (hl : l.length < 1000000) (hN : 1000000 ≤ N) : jQ3 N l s = some (inL l s) := by
 unfold jQ3 jWe
 have h : ((jXh (jZf N l s) N 0).bind fun o5 => Sum.elim (fun l7 => some (-1 : Int)) (fun r8 => some r8) o5) = some (ixI (fun x => decide (s = x)) l) := by
  refine jHl (fun i hi => ?_) ?_ (by omega)
  ·unfold jZf
   rw [jQq, dT (by omega), cond_true, jVw hi, bS, jUs, jDb (by omega)]
  ·unfold jZf
   rw [jQq, dF (by omega), cond_false]
 rw [h, bS, jDw]
 have := jMs (g := fun x => decide (s = x)) (l := l)
 unfold inL
 cases h2 : l.any (fun x => decide (s = x)) with
 | true => rw [h2] at this; simp at this; rw [dT (by omega)]
 | false => rw [h2] at this; simp at this; rw [dF (by omega)]
theorem jS5 {N : Nat} {l : List Int} {s : Int} (hl : l.length < 1000000) (hN : 1000000 ≤ N) : jWu N l s = some (l.contains s) := by
 unfold jWu jKp
 have h : ((jXh (jVu N l s) N 0).bind fun o5 => Sum.elim (fun l7 => some (-1 : Int)) (fun r8 => some r8) o5) = some (ixI (fun x => decide (s = x)) l) := by
  refine jHl (fun i hi => ?_) ?_ (by omega)
  ·unfold jVu
   rw [jQq, dT (by omega), cond_true, jVw hi, bS, jUt, jDb (by omega)]
  ·unfold jVu
   rw [jQq, dF (by omega), cond_false]
 rw [h, bS, jDw]
 have := jMs (g := fun x => decide (s = x)) (l := l)
 have e : l.contains s = l.any (fun x => decide (s = x)) := by
  rw [Bool.eq_iff_iff, List.contains_iff_mem, List.any_eq_true]; simp
 rw [e]
 cases h2 : l.any (fun x => decide (s = x)) with
 | true => rw [h2] at this; simp at this; rw [dT (by omega)]
 | false => rw [h2] at this; simp at this; rw [dF (by omega)]
theorem SmP.next {p : GPermitPlan} (hp : SmP p) (s : Str) : (atS p s).Next.length < 1000 := by
 unfold atS jFj
 cases h : p.Spaces.find? (isS s) with
 | none => simp
 | some y => exact hp.n y (List.mem_of_find?_eq_some h)
theorem jPe {N : Nat} {p : GPermitPlan} {a b : Str} (hp : SmP p) (hN : 1000000 ≤ N) : jYe N p a b = some (jUl p a b) := by
  unfold jYe jUl
  have hs := hp.s
  have h1 := hp.next a
  have h2 := hp.next b
  rw [jH9 (by omega) hN, jH9 (by omega) hN, bS, bS, jUs]
  by_cases h : a = b
  · rw [dT h, if_pos h]; rfl
  · rw [dF h, if_neg h, cond_false, show jQ3 N (jFj _ (isS a) p.Spaces).1.Next b = _ from jTv (by exact Nat.lt_trans h1 (by decide)) hN, show jQ3 N (jFj _ (isS b) p.Spaces).1.Next a = _ from jTv (by exact Nat.lt_trans h2 (by decide)) hN, bS]
    show ((bif (!inL (atS p a).Next b) then some (inL (atS p b).Next a) else some false).bind fun v4 => bif (inL (atS p a).Next b || v4) then (some (1 : Int)) else (some 2)) = _
    cases inL (atS p a).Next b with
    | true => rfl
    | false => cases inL (atS p b).Next a <;> rfl
theorem qQr {N : Nat} {p : GPermitPlan} {x : jJu} (hp : SmP p) (hN : 1000000 ≤ N) : jKd N p x = some (jFv p x) := by
 unfold jKd jFv
 have hs := hp.s
 have hlim : lim ≥ 1000000 := by decide
 rw [jH9 (by omega) hN, bS]
 have hk : (bif (jJy .eql x.Kind 0) then (some (jJy .eql x.Kind 0)) else (bif (jJy .eql x.Kind 1) then (some (jJy .eql x.Kind 1)) else (some (jJy .eql x.Kind 2)))) = some (jPz x) := by
  unfold jPz
  simp only [jUt]
  cases decide (x.Kind = 0) <;> cases decide (x.Kind = 1) <;> cases decide (x.Kind = 2) <;> rfl
 rw [hk, bS]
 have ho : (bif jPz x then (bif (jFj (⟨[], false, []⟩ : jJ5) (isS x.Space) p.Spaces).1.Enclosed then ((app [] [(jFj (⟨[], false, []⟩ : jJ5) (isS x.Space) p.Spaces).1.Name]).bind fun v6 => some v6) else (some [])) else (some [])) = some (bif jPz x && (atS p x.Space).Enclosed then [(atS p x.Space).Name] else []) := by
  show (bif jPz x then (bif (atS p x.Space).Enclosed then ((app [] [(atS p x.Space).Name]).bind fun v6 => some v6) else (some [])) else (some [])) = _
  rw [qQ6 (by simp only [List.length_nil, List.length_singleton]; omega)]
  cases jPz x <;> cases (atS p x.Space).Enclosed <;> rfl
 rw [ho, bS, jUt]
 by_cases h0 : x.Kind = 0
 ·rw [dT h0, cond_true, cond_true]
  rw [qVe (f := jWr N p (jFj (⟨[], false, []⟩ : jJ5) (isS x.Space) p.Spaces)) p.Spaces _ (fun s => s.Enclosed && decide (jUl p s.Name (atS p x.Space).Name = 1)) (fun s => s.Name) (fun a i => (a, i)) (fun a => a) (fun i hi acc hacc => ?_) (fun acc => ?_) (by omega)]
  ·rfl
  ·have hacc' : acc.length ≤ 1 + p.Spaces.length := by
    refine Nat.le_trans hacc (Nat.add_le_add_right ?_ _)
    cases (jPz x && (atS p x.Space).Enclosed) <;> simp
   unfold jWr
   simp only []
   rw [jQq, dT (by omega), cond_true, jVw hi, bS, jPe hp hN, jDb (by omega)]
   show ((bif p.Spaces[i].Enclosed then some (jUl p p.Spaces[i].Name (atS p x.Space).Name) else some 0).bind fun v13 => _) = _
   cases p.Spaces[i].Enclosed with
   | false => rfl
   | true =>
    rw [cond_true, bS, Bool.true_and, Bool.true_and, jUt]
    cases decide (jUl p p.Spaces[i].Name (atS p x.Space).Name = 1) with
    | false => rfl
    | true => rw [cond_true, qQ6 (by simp only [List.length_singleton]; omega)]; rfl
  ·unfold jWr
   simp only []
   rw [jQq, dF (by omega), cond_false]
 ·rw [dF h0, cond_false, cond_false, List.append_nil]
theorem qJ7 {p : GPermitPlan} {x : jJu} (hp : SmP p) : (jFv p x).length < 2000 := by
 have hs := hp.s
 unfold jFv
 rw [List.length_append]
 have h1 : (bif jPz x && (atS p x.Space).Enclosed then [(atS p x.Space).Name] else []).length ≤ 1 := by cases (jPz x && (atS p x.Space).Enclosed) <;> simp
 have h2 : (bif decide (x.Kind = 0) then (p.Spaces.filter (fun s => s.Enclosed && decide (jUl p s.Name (atS p x.Space).Name = 1))).map (fun s => s.Name) else []).length ≤ p.Spaces.length := by
  cases decide (x.Kind = 0) with
  | false => exact Nat.zero_le _
  | true => rw [cond_true, List.length_map]; exact List.length_filter_le _ _
 omega
end Go.KB
namespace Go.KB
set_option linter.unusedVariables false
structure AO where
 now : Int
 es : Str → jJj
 ts : Str → Option jJz
 pp : List (Str × Str)
 done : List GEvent
def stA (A : AO) (s : Str) : Int := (A.es s).state
def upA (A : AO) (n : Str) (e : jJj) : AO := { A with es := fun s => bif decide (s = n) then e else A.es s }
def beA (A : AO) (n : Str) (k : Int) : AO := upA A n { A.es n with state := k }
def qXw (p : GPermitPlan) (A : AO) (s : Str) : Bool := bif !(atS p s).Enclosed then true else match A.ts s with
 | none => false
 | some t => decide (A.now - t.at_ ≤ p.GasMinutes) && decide (195 ≤ t.oxygen) && decide (t.oxygen ≤ 235) && decide (t.gas ≤ 50)
def qXl (p : GPermitPlan) (A : AO) (s : Str) : Bool := bif !(atS p s).Enclosed then true else match A.ts s with
 | none => false
 | some t => decide (A.now - t.at_ ≤ p.GasMinutes) && decide (195 ≤ t.oxygen) && decide (t.oxygen ≤ 235) && decide (t.gas ≤ 50) && decide (t.gas ≤ 10)
def jAw (p : GPermitPlan) (A : AO) (x : jJu) (s : Str) : Bool := bif decide (x.Kind = 0) then qXl p A s else qXw p A s
def jR3 (p : GPermitPlan) (A : AO) (x : jJu) : List Str := (jFv p x).filter fun s => !jAw p A x s
def qXu (A : AO) (x : jJu) : List Str := x.Locks.filter fun s => !decide (stA A s = 2)
def jN4 (p : GPermitPlan) (A : AO) (x : jJu) : Bool := !(jR3 p A x).isEmpty || !(qXu A x).isEmpty
def qZ6 (now : Int) (e : jJj) : jJj := bif decide (e.state ≤ 3) && decide (e.to_ ≤ now) then { e with state := 6 } else e
def jT1 (p : GPermitPlan) (A : AO) : AO := { A with es := fun s => bif jUm p s then qZ6 A.now (A.es s) else A.es s }
def jSy (p : GPermitPlan) (A : AO) : AO := { A with es := fun s => bif jUm p s && decide (stA A s = 2) && jN4 p A (atP p s) then { A.es s with state := 3 } else A.es s }
def jZd (p : GPermitPlan) (A : AO) : AO := jSy p (jT1 p A)
def jY4 (p : GPermitPlan) (A : AO) (so : jJu → Bool) : List Str := (p.Permits.filter fun x => decide (stA A x.Name = 2) && so x).map fun x => x.Name
def jMd (A : AO) (so : Str → Bool) : List Str := (A.pp.filter fun q => so q.2).map fun q => q.1
def qWf (p : GPermitPlan) (A : AO) (x : jJu) : List jJ9 :=
 (bif decide (A.now < x.From) then [(⟨2, []⟩ : jJ9)] else []) ++
 (([(⟨18, qXu A x⟩ : jJ9), (⟨20, jY4 p A (fun y => jBv p y x)⟩ : jJ9), (⟨21, jR3 p A x⟩ : jJ9)] ++ (bif decide (x.Kind = 3) then [(⟨17, jMd A (fun s => decide (jUl p s x.Space ≤ 1))⟩ : jJ9)] else [])).filter fun r => !r.Names.isEmpty)
def jFr (p : GPermitPlan) (A : AO) (s : Str) : Bool := !(jY4 p A (fun y => decide (y.Kind = 1) && decide (y.Space = s))).isEmpty
def qQ8 : List (Str × Str) → Str → Str → List (Str × Str)
 | [], n, s => [(n, s)]
 | q :: r, n, s => bif decide (q.1 < n) then q :: qQ8 r n s else (n, s) :: q :: r
def jMj (A : AO) (e : Int) (l : List Str) : AO × List Str × Int := (A, l, e)
def jTm (A : AO) : AO × List Str × Int := (A, [], 0)
def jPd (A : AO) (x : GEvent) : AO × List Str × Int := bif !jWb x.Person then jMj A 4 [] else jTm (upA A x.Name { A.es x.Name with state := 1, by_ := x.Person })
def jN0 (p : GPermitPlan) (A : AO) (x : GEvent) : AO × List Str × Int :=
 bif !jWb x.Person then jMj A 4 [] else bif decide (x.Person = (A.es x.Name).by_) then jMj A 26 [] else
 match qWf p A (atP p x.Name) with
 | r :: _ => jMj A r.Err r.Names
 | [] => jTm (beA A x.Name 2)
def jNl (p : GPermitPlan) (A : AO) (x : GEvent) : AO × List Str × Int :=
 let y := atP p x.Name
 bif decide (y.Kind = 5) && !(jY4 p A (fun z => inL z.Locks y.Name)).isEmpty then jMj A 20 (jY4 p A (fun z => inL z.Locks y.Name)) else
 bif decide (y.Kind = 1) && decide (stA A y.Name = 2) && (atS p y.Space).Enclosed && (jY4 p A (fun z => decide (z.Kind = 1) && decide (z.Space = y.Space) && !decide (z.Name = y.Name))).isEmpty && !(jMd A (fun s => decide (s = y.Space))).isEmpty then jMj A 21 (jMd A (fun s => decide (s = y.Space))) else
 jTm (beA A x.Name 4)
def gasA (p : GPermitPlan) (A : AO) (x : GEvent) : AO × List Str × Int :=
 bif !jM3 p x.Space then jMj A 6 [] else bif decide (x.Oxygen < 0) || decide (1000 < x.Oxygen) || decide (x.Gas < 0) || decide (1000 < x.Gas) then jMj A 2 [] else
 jTm { A with ts := fun s => bif decide (s = x.Space) then some ⟨A.now, x.Oxygen, x.Gas⟩ else A.ts s }
def jMr (A : AO) (n : Str) : Bool := A.pp.any fun q => decide (q.1 = n)
def qQx (p : GPermitPlan) (A : AO) (x : GEvent) : AO × List Str × Int :=
 bif !jWb x.Person then jMj A 4 [] else bif !jM3 p x.Space then jMj A 6 [] else bif jMr A x.Person then jMj A 18 [] else
 bif (atS p x.Space).Enclosed && !jFr p A x.Space then jMj A 21 [] else
 bif !(jY4 p A (fun y => decide (y.Kind = 3) && decide (jUl p y.Space x.Space ≤ 1))).isEmpty then jMj A 17 (jY4 p A (fun y => decide (y.Kind = 3) && decide (jUl p y.Space x.Space ≤ 1))) else
 jTm { A with pp := qQ8 A.pp x.Person x.Space }
def qQh (A : AO) (x : GEvent) : AO × List Str × Int :=
 bif !jWb x.Person then jMj A 4 [] else bif !jMr A x.Person then jMj A 6 [] else jTm { A with pp := A.pp.filter fun q => !decide (q.1 = x.Person) }
def qJb (p : GPermitPlan) (A : AO) (x : GEvent) : AO × List Str × Int :=
 bif !jM3 p x.Space then jMj A 6 [] else
 jTm { A with es := fun s => bif jUm p s && decide (stA A s = 2) && (!decide ((atP p s).Kind = 5) && decide (jUl p (atP p s).Space x.Space ≤ 1)) then { A.es s with state := 3 } else A.es s }
def jTx (A : AO) (x : GEvent) : AO × List Str × Int :=
 bif !jWb x.Person then jMj A 4 [] else bif decide (x.To ≤ (A.es x.Name).to_) || decide (1000000 < x.To) then jMj A 2 [] else jTm (upA A x.Name { A.es x.Name with to_ := x.To })
def jMb (op : Int) : Option (List Int) := if op = 1 then some [0] else if op = 2 then some [1] else if op = 3 then some [2] else if op = 4 then some [3] else if op = 5 then some [2, 3] else if op = 6 then some [0, 1] else if op = 11 then some [1, 2, 3] else none
def qZ2 (p : GPermitPlan) (A : AO) (x : GEvent) : AO × List Str × Int :=
 if x.Op = 0 then jTm A else if x.Op = 1 then jPd A x else if x.Op = 2 then jN0 p A x else if x.Op = 3 then jTm (beA A x.Name 3) else if x.Op = 4 then jN0 p A x else
 if x.Op = 5 then jNl p A x else if x.Op = 6 then jTm (beA A x.Name 5) else if x.Op = 7 then gasA p A x else if x.Op = 8 then qQx p A x else if x.Op = 9 then qQh A x else
 if x.Op = 10 then qJb p A x else jTx A x
def qWh (p : GPermitPlan) (A : AO) (x : GEvent) : AO × List Str × Int :=
 match jMb x.Op with
 | none => qZ2 p A x
 | some l => bif !jUm p x.Name then jMj A 6 [] else bif !l.contains (stA A x.Name) then jMj A 18 [] else qZ2 p A x
def doA (p : GPermitPlan) (A : AO) (x : GEvent) : AO × List Str × Int :=
 bif decide (x.Op < 0) || decide (12 ≤ x.Op) || decide (x.At < 0) || decide (1000000 < x.At) then jMj A 2 [] else bif decide (x.At < A.now) then jMj A 10 [] else
 let r := qWh p (jZd p { A with now := x.At }) x
 bif decide (r.2.2 = 0) then ({ jZd p r.1 with done := A.done ++ [x] }, [], 0) else r
def newA (p : GPermitPlan) : AO := jZd p ⟨0, fun s => bif jUm p s then ⟨0, [], (atP p s).To⟩ else ⟨0, [], 0⟩, fun _ => none, [], []⟩
end Go.KB
