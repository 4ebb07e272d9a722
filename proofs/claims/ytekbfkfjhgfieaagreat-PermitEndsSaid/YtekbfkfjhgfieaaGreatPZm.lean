/- Plain laws of chapter 7: what a valid plan is, nearness, exclusion, needs. Plain laws of chapter 7: loops that filter, find and delete. Plain laws of chapter 7: near and needs of the program. Plain laws of chapter 7: what an office does, by names. No condition. -/
import Derived.Test.YtekbfkfjhgfieaaGreatPZl
namespace Go.KB
set_option linter.unusedVariables false
def inL (l : List Str) (s : Str) : Bool := l.any (fun x => decide (s = x))
theorem qY3 {l : List Str} {s : Str} : inL l s = true ↔ s ∈ l := by
 unfold inL; rw [List.any_eq_true]
 constructor
 ·rintro ⟨x, h1, h2⟩; rw [decide_eq_true_eq] at h2; rw [h2]; exact h1
 ·intro h; exact ⟨s, h, by simp⟩
theorem jD2 {p : GPermitPlan} {s : Str} : jUn p s = true ↔ ∃ y ∈ p.Permits, y.Name = s := by
 unfold jUn; rw [List.any_eq_true]; simp [isP]
theorem jSj {α : Type} {z : α} {g : α → Bool} {l : List α} (h : l.any g = true) : (jFn z g l).1 ∈ l ∧ g (jFn z g l).1 = true := by
 unfold jFn
 cases h2 : l.find? g with
 | none => rw [List.any_eq_true] at h; obtain ⟨x, hx, hg⟩ := h; exact absurd hg (by simpa using List.find?_eq_none.1 h2 x hx)
 | some y => exact ⟨List.mem_of_find?_eq_some h2, List.find?_some h2⟩
theorem qW1 {p : GPermitPlan} {s : Str} (h : jNe p s = true) : atS p s ∈ p.Spaces ∧ (atS p s).Name = s := by
 have := jSj (z := (⟨[], false, []⟩ : jJ4)) h
 exact ⟨this.1, of_decide_eq_true this.2⟩
theorem jD5 {p : GPermitPlan} {s : Str} (h : jUn p s = true) : atP p s ∈ p.Permits ∧ (atP p s).Name = s := by
 have := jSj (z := (⟨[], 0, [], 0, 0, []⟩ : jJg)) h
 exact ⟨this.1, of_decide_eq_true this.2⟩
structure OkP (p : GPermitPlan) : Prop where
 ns : p.Spaces.length ≤ 30
 ne : p.Exclusions.length ≤ 30
 np : p.Permits.length ≤ 20
 gm : 1 ≤ p.GasMinutes ∧ p.GasMinutes ≤ 10000
 sn : ∀ y ∈ p.Spaces, jWv y.Name = true
 sd : ∀ i j, i < p.Spaces.length → j < p.Spaces.length → p.Spaces[i]!.Name = p.Spaces[j]!.Name → i = j
 nx : ∀ y ∈ p.Spaces, ∀ n ∈ y.Next, jNe p n = true ∧ n ≠ y.Name
 xk : ∀ e ∈ p.Exclusions, jD0 e.A = true ∧ jD0 e.B = true ∧ 0 ≤ e.Reach ∧ e.Reach ≤ 2
 pn : ∀ y ∈ p.Permits, jWv y.Name = true
 pd : ∀ i j, i < p.Permits.length → j < p.Permits.length → p.Permits[i]!.Name = p.Permits[j]!.Name → i = j
 pk : ∀ y ∈ p.Permits, jD0 y.Kind = true ∧ 0 ≤ y.From ∧ y.From < y.To ∧ y.To ≤ 1000000 ∧ jNe p y.Space = true
 lk : ∀ y ∈ p.Permits, ∀ l ∈ y.Locks, jUn p l = true ∧ (atP p l).Kind = 5 ∧ y.Kind ≠ 5
theorem qVe {a b : Int} (h : jTe a b = 0) : a = 0 ∧ b = 0 := by
 unfold jTe at h
 by_cases h0 : a = 0
 ·rw [if_pos h0] at h; exact ⟨h0, h⟩
 ·rw [if_neg h0] at h; exact absurd h h0
theorem jF8 {α : Type} [Inhabited α] {l : List α} {e : Nat → Int} {y : α} (h : jX3 e l.length 0 = 0) (hy : y ∈ l) : ∃ i, i < l.length ∧ l[i]! = y ∧ e i = 0 := by
 obtain ⟨i, hi, rfl⟩ := List.getElem_of_mem hy
 exact ⟨i, hi, qVb hi, jFg h i (by omega) (by omega)⟩
theorem qZh {nm : Nat → Str} {n : Nat} (h : ∀ i, i < n → dup nm i (nm i) = false) : ∀ i j, i < n → j < n → nm i = nm j → i = j := by
 have key : ∀ i j, i < j → j < n → nm i ≠ nm j := fun i j hij hj he => by
  have := (jAv nm (nm j) j).2 ⟨i, hij, he⟩
  rw [h j hj] at this; cases this
 intro i j hi hj he
 rcases Nat.lt_trichotomy i j with h1 | h1 | h1
 ·exact absurd he (key i j h1 hj)
 ·exact h1
 ·exact absurd he.symm (key j i h1 hi)
theorem eSp0 {p : GPermitPlan} {i : Nat} (h : eSp p i = 0) : jWv (nmS p i) = true ∧ dup (nmS p) i (nmS p i) = false := by
 unfold eSp at h
 split at h
 ·cases h
 ·rename_i h1
  split at h
  ·cases h
  ·rename_i h2; exact ⟨by simpa using h1, by simpa using h2⟩
theorem ePm0 {p : GPermitPlan} {i : Nat} (h : ePm p i = 0) : jWv (nmP p i) = true ∧ dup (nmP p) i (nmP p i) = false ∧ jD0 p.Permits[i]!.Kind = true ∧ 0 ≤ p.Permits[i]!.From ∧ p.Permits[i]!.From < p.Permits[i]!.To ∧ p.Permits[i]!.To ≤ 1000000 ∧ jNe p p.Permits[i]!.Space = true := by
 unfold ePm at h
 split at h
 ·cases h
 ·rename_i h1
  split at h
  ·cases h
  ·rename_i h2
   split at h
   ·cases h
   ·rename_i h3
    split at h
    ·cases h
    ·rename_i h4
     simp only [not_or] at h3
     refine ⟨by simpa using h1, by simpa using h2, by simpa using h3.1, by omega, by omega, by omega, by simpa using h4⟩
theorem okP {p : GPermitPlan} (h : jGe p = 0) : OkP p := by
 unfold jGe at h
 split at h
 ·cases h
 rename_i hb
 split at h
 ·cases h
 rename_i hg
 obtain ⟨h1, h2⟩ := qVe h
 obtain ⟨h1, h3⟩ := qVe h1
 obtain ⟨h4, h5⟩ := qVe h2
 obtain ⟨h5, h6⟩ := qVe h5
 refine ⟨by omega, by omega, by omega, by omega, ?_, ?_, ?_, ?_, ?_, ?_, ?_, ?_⟩
 ·intro y hy; obtain ⟨i, hi, rfl, he⟩ := jF8 h1 hy; exact (eSp0 he).1
 ·exact qZh (nm := nmS p) fun i hi => (eSp0 (jFg h1 i (by omega) (by omega))).2
 ·intro y hy n hn
  obtain ⟨i, hi, rfl, he⟩ := jF8 h3 hy
  obtain ⟨j, hj, rfl, he⟩ := jF8 he hn
  unfold eNx at he
  split at he
  ·cases he
  ·rename_i a
   split at he
   ·cases he
   ·rename_i b; exact ⟨by simpa using a, b⟩
 ·intro y hy
  obtain ⟨i, hi, rfl, he⟩ := jF8 h4 hy
  unfold eEx at he
  split at he
  ·cases he
  ·rename_i a; simp only [not_or] at a; exact ⟨by simpa using a.1, by simpa using a.2.1, by omega, by omega⟩
 ·intro y hy; obtain ⟨i, hi, rfl, he⟩ := jF8 h5 hy; exact (ePm0 he).1
 ·exact qZh (nm := nmP p) fun i hi => (ePm0 (jFg h5 i (by omega) (by omega))).2.1
 ·intro y hy; obtain ⟨i, hi, rfl, he⟩ := jF8 h5 hy; exact (ePm0 he).2.2
 ·intro y hy n hn
  obtain ⟨i, hi, rfl, he⟩ := jF8 h6 hy
  obtain ⟨j, hj, rfl, he⟩ := jF8 he hn
  unfold eLk at he
  split at he
  ·cases he
  ·rename_i a
   split at he
   ·cases he
   ·rename_i b; simp only [not_or] at b; exact ⟨by simpa using a, by simpa using b.1, b.2⟩
theorem OkP.sm {p : GPermitPlan} {N : Nat} (hp : SmP p) : SmP p := hp
theorem OkP.atP_at {p : GPermitPlan} (h : OkP p) {x : jJg} (hx : x ∈ p.Permits) : atP p x.Name = x := by
 have h1 : jUn p x.Name = true := jD2.2 ⟨x, hx, rfl⟩
 obtain ⟨h2, h3⟩ := jD5 h1
 obtain ⟨i, hi, he⟩ := List.getElem_of_mem h2
 obtain ⟨j, hj, hf⟩ := List.getElem_of_mem hx
 have := h.pd i j hi hj (by rw [qVb hi, qVb hj, he, hf, h3])
 subst this
 rw [← he, hf]
def jUz (p : GPermitPlan) (a b : Str) : Int := if a = b then 0 else bif inL (atS p a).Next b || inL (atS p b).Next a then 1 else 2
theorem qQc (p : GPermitPlan) (a b : Str) : jUz p a b = jUz p b a := by
 unfold jUz
 by_cases h : a = b
 ·subst h; rfl
 ·rw [if_neg h, if_neg (fun x => h x.symm), Bool.or_comm]
def exE (e : jJs) (d k m : Int) : Bool := decide (d ≤ e.Reach) && ((decide (e.A = k) && decide (e.B = m)) || (decide (e.A = m) && decide (e.B = k)))
theorem qV7 (e : jJs) (d k m : Int) : exE e d k m = exE e d m k := by unfold exE; rw [Bool.or_comm]
def jDn (p : GPermitPlan) (x y : jJg) : Bool := bif decide (x.Name = y.Name) then false else p.Exclusions.any (fun e => exE e (jUz p x.Space y.Space) x.Kind y.Kind)
theorem jR4 (p : GPermitPlan) (x y : jJg) : jDn p x y = jDn p y x := by
 unfold jDn
 rw [qQc p y.Space x.Space, show decide (y.Name = x.Name) = decide (x.Name = y.Name) from decide_eq_decide.2 ⟨Eq.symm, Eq.symm⟩]
 congr 2
 funext e
 exact qV7 ..
def jP5 (x : jJg) : Bool := decide (x.Kind = 0) || (decide (x.Kind = 1) || decide (x.Kind = 2))
def jRp (p : GPermitPlan) (x : jJg) : List Str := (bif jP5 x && (atS p x.Space).Enclosed then [(atS p x.Space).Name] else []) ++ (bif decide (x.Kind = 0) then (p.Spaces.filter (fun s => s.Enclosed && decide (jUz p s.Name (atS p x.Space).Name = 1))).map (fun s => s.Name) else [])
end Go.KB
namespace Go.KB
set_option linter.unusedVariables false
theorem qQ9 {α : Type} {xs ys : List α} (h : xs.length + ys.length ≤ lim) : app xs ys = some (xs ++ ys) := by
 unfold app; rw [Nat.ble_eq_true_of_le h]; rfl
theorem jMw {S O : Type} {n N : Nat} {f : S → Option (S ⊕ O)} (g : Nat → S) (r : O) (h : ∀ i : Nat, i < n → f (g i) = some (.inl (g (i + 1)))) (he : f (g n) = some (.inr r)) (hN : n < N) : jXm f N (g 0) = some r := by
 have key : ∀ k i, i + k = n → ∀ M, k < M → jXm f M (g i) = some r := by
  intro k
  induction k with
  | zero =>
   intro i hi M hM
   obtain ⟨M, rfl⟩ : ∃ m, M = m + 1 := ⟨M - 1, by omega⟩
   have : i = n := by omega
   subst this
   simp only [jXm, he]
  | succ k ih =>
   intro i hi M hM
   obtain ⟨M, rfl⟩ : ∃ m, M = m + 1 := ⟨M - 1, by omega⟩
   simp only [jXm, h i (by omega)]
   exact ih (i + 1) (by omega) M (by omega)
 exact key n 0 (by omega) N (by omega)
theorem qQr {S O α T : Type} {N : Nat} {f : S → Option (S ⊕ O)} (l : List α) (t0 : T) (stp : T → α → T) (mk : T → Int → S) (out : T → O) (hf : ∀ (i : Nat) (hi : i < l.length) (t : T), t = (l.take i).foldl stp t0 → f (mk t (i : Int)) = some (.inl (mk (stp t l[i]) ((i + 1 : Nat) : Int)))) (he : ∀ t, f (mk t (l.length : Int)) = some (.inr (out t))) (hN : l.length < N) : jXm f N (mk t0 0) = some (out (l.foldl stp t0)) := by
 refine jMw (n := l.length) (fun i => mk ((l.take i).foldl stp t0) (i : Int)) _ (fun i hi => ?_) ?_ hN
 ·rw [hf i hi _ rfl, List.take_succ_eq_append_getElem hi, List.foldl_append]; rfl
 ·rw [List.take_length]; exact he _
theorem foldl_filter {α β : Type} (g : α → Bool) (h : α → β) : ∀ (l : List α) (a : List β), l.foldl (fun acc x => bif g x then acc ++ [h x] else acc) a = a ++ (l.filter g).map h
  | [], a => by simp
  | x :: r, a => by
    simp only [List.foldl_cons, foldl_filter g h r, List.filter_cons]
    cases g x <;> simp
theorem qXr {α β : Type} (g : α → Bool) (h : α → β) : ∀ (l : List α) (a : List β), (l.foldl (fun acc x => bif g x then acc ++ [h x] else acc) a).length ≤ a.length + l.length := fun l a => by
 rw [foldl_filter, List.length_append, List.length_map]
 have := List.length_filter_le g l
 omega
theorem qZj {S O α β : Type} {N : Nat} {f : S → Option (S ⊕ O)} (l : List α) (a : List β) (g : α → Bool) (h : α → β) (mk : List β → Int → S) (out : List β → O) (hf : ∀ (i : Nat) (hi : i < l.length) (acc : List β), acc.length ≤ a.length + l.length → f (mk acc (i : Int)) = some (.inl (mk (bif g l[i] then acc ++ [h l[i]] else acc) ((i + 1 : Nat) : Int)))) (he : ∀ t, f (mk t (l.length : Int)) = some (.inr (out t))) (hN : l.length < N) : jXm f N (mk a 0) = some (out (a ++ (l.filter g).map h)) := by
 rw [qQr (f := f) l a (fun acc x => bif g x then acc ++ [h x] else acc) mk out (fun i hi t ht => ?_) he hN, foldl_filter]
 refine hf i hi t ?_
 rw [ht]
 have := qXr g h (l.take i) a
 rw [List.length_take] at this
 omega
theorem qYa {α : Type} {l : List α} {a b : Nat} (h : a ≤ b) (hb : b ≤ l.length) : slc l (a : Int) (b : Int) = some ((l.take b).drop a) := by
 unfold slc
 rw [dT (by omega), dT (by omega), dT (by omega)]; rfl
theorem qWf {N : Nat} {f : (List Str × Int × Int) → Option ((List Str × Int × Int) ⊕ (List Str × Int))} {l : List Str} {g : Str → Bool} (hf : ∀ (xs : List Str) (i j : Nat), (hj : j < xs.length) → i ≤ j → j < 1000000 → xs[j] ∈ l → f (xs, (i : Int), (j : Int)) = bif !g xs[j] then some (.inl (xs.set i xs[j], ((i + 1 : Nat) : Int), ((j + 1 : Nat) : Int))) else some (.inl (xs, (i : Int), ((j + 1 : Nat) : Int)))) (he : ∀ (xs : List Str) (i : Int), f (xs, i, (xs.length : Int)) = some (.inr (xs, i))) (hl : l.length < 1000000) (hN : 1000000 ≤ N) {i0 : Nat} (h0 : i0 < l.length) (hi : l.findIdx g = i0) :
    ∃ xs, jXm f N (l, (i0 : Int), ((i0 + 1 : Nat) : Int)) = some (xs, ((l.filter fun s => !g s).length : Int)) ∧ xs.length = l.length ∧ xs.take (l.filter fun s => !g s).length = l.filter fun s => !g s := by
  have key : ∀ k i j xs, j + k = l.length → i ≤ j → xs.length = l.length → xs.take i = (l.take j).filter (fun s => !g s) → xs.drop j = l.drop j → i = ((l.take j).filter (fun s => !g s)).length → ∀ M, k < M →
      ∃ ys, jXm f M (xs, (i : Int), (j : Int)) = some (ys, ((l.filter fun s => !g s).length : Int)) ∧ ys.length = l.length ∧ ys.take (l.filter fun s => !g s).length = l.filter fun s => !g s := by
    intro k
    induction k with
    | zero =>
      intro i j xs hj hij hx h1 h2 h3 M hM
      obtain ⟨M, rfl⟩ : ∃ m, M = m + 1 := ⟨M - 1, by omega⟩
      have : j = xs.length := by omega
      subst this
      rw [hx, List.take_length] at h1 h3
      refine ⟨xs, ?_, hx, by rw [← h3]; exact h1⟩
      simp only [jXm, he, h3]
    | succ k ih =>
      intro i j xs hj hij hx h1 h2 h3 M hM
      obtain ⟨M, rfl⟩ : ∃ m, M = m + 1 := ⟨M - 1, by omega⟩
      have hjx : j < xs.length := by omega
      have hjl : j < l.length := by omega
      have hxj : xs[j] = l[j] := by
        have := congrArg (fun l => l[0]?) h2
        simp only [List.getElem?_drop, Nat.add_zero] at this
        rw [List.getElem?_eq_getElem hjx, List.getElem?_eq_getElem hjl] at this
        exact Option.some.inj this
      have hd : xs.drop (j + 1) = l.drop (j + 1) := by rw [← List.drop_drop, ← List.drop_drop, h2]
      simp only [jXm, hf xs i j hjx hij (by omega) (by rw [hxj]; exact List.getElem_mem hjl)]
      rw [hxj]
      have htk : (l.take (j + 1)).filter (fun s => !g s) = (l.take j).filter (fun s => !g s) ++ [l[j]].filter (fun s => !g s) := by
        rw [List.take_succ_eq_append_getElem hjl, List.filter_append]
      cases hg : g l[j] with
      | false =>
        have hone : [l[j]].filter (fun s => !g s) = [l[j]] := by simp [hg]
        rw [hone] at htk
        simp only [Bool.not_false, cond_true]
        refine ih (i + 1) (j + 1) (xs.set i l[j]) (by omega) (by omega) (by simpa using hx) ?_ ?_ ?_ M (by omega)
        · rw [htk, ← h1, List.take_succ_eq_append_getElem (by simp; omega), List.take_set_of_le (Nat.le_refl _)]
          simp
        · rw [List.drop_set_of_lt (by omega)]; exact hd
        · rw [htk, List.length_append, ← h3]; rfl
      | true =>
        have hone : [l[j]].filter (fun s => !g s) = [] := by simp [hg]
        rw [hone, List.append_nil] at htk
        simp only [Bool.not_true, cond_false]
        exact ih i (j + 1) xs (by omega) (by omega) hx (by rw [htk]; exact h1) hd (by rw [htk]; exact h3) M (by omega)
  have hpre : (l.take i0).filter (fun s => !g s) = l.take i0 := by
    refine List.filter_eq_self.2 fun a ha => ?_
    obtain ⟨j, hj, rfl⟩ := List.getElem_of_mem ha
    rw [List.length_take] at hj
    have := List.not_of_lt_findIdx (p := g) (xs := l) (i := j) (by omega)
    rw [List.getElem_take]
    simpa using this
  have hat : g l[i0] = true := by subst hi; exact List.findIdx_getElem
  refine key (l.length - (i0 + 1)) i0 (i0 + 1) l (by omega) (by omega) rfl ?_ rfl ?_ N (by omega)
  · rw [List.take_succ_eq_append_getElem h0, List.filter_append, hpre]; simp [hat]
  · rw [List.take_succ_eq_append_getElem h0, List.filter_append, hpre]; simp [hat]; omega
theorem del_eq {N : Nat} {f : (List Str × Int × Int) → Option ((List Str × Int × Int) ⊕ (List Str × Int))} {l : List Str} {g : Str → Bool} (hf : ∀ (xs : List Str) (i j : Nat), (hj : j < xs.length) → i ≤ j → j < 1000000 → xs[j] ∈ l → f (xs, (i : Int), (j : Int)) = bif !g xs[j] then some (.inl (xs.set i xs[j], ((i + 1 : Nat) : Int), ((j + 1 : Nat) : Int))) else some (.inl (xs, (i : Int), ((j + 1 : Nat) : Int)))) (he : ∀ (xs : List Str) (i : Int), f (xs, i, (xs.length : Int)) = some (.inr (xs, i))) (hl : l.length < 1000000) (hN : 1000000 ≤ N) :
    (bif (jJy .eql (ixI g l) (-1)) then (some l) else ((jXm f N (l, ixI g l, (IntKind.i64.wrap (ixI g l + 1)))).bind fun o8 => (slc o8.1 o8.2 (List.length o8.1 : Int)).bind fun v10 => (bif Nat.beq ((Int.toNat o8.2) + (Int.toNat (List.length o8.1 : Int) - Int.toNat o8.2)) (List.length o8.1) then some (List.take (Int.toNat o8.2) o8.1 ++ List.replicate (Int.toNat (List.length o8.1 : Int) - Int.toNat o8.2) []) else none).bind fun v11 => (slc v11 0 o8.2).bind fun v12 => some v12)) = some (l.filter fun s => !g s) := by
  rw [jU2]
  by_cases h : l.findIdx g < l.length
  · rw [jLv h, dF (by omega), cond_false, jDj (by omega)]
    obtain ⟨xs, h1, h2, h3⟩ := qWf hf he hl hN h rfl
    rw [h1, bS]
    simp only []
    have hk : (l.filter fun s => !g s).length ≤ xs.length := by rw [h2]; exact List.length_filter_le _ _
    generalize hkk : (l.filter fun s => !g s).length = k at h3 hk
    rw [qYa hk (Nat.le_refl _), bS, Int.toNat_natCast, Int.toNat_natCast, show Nat.beq (k + (xs.length - k)) xs.length = true from by rw [Nat.beq_eq]; omega, cond_true, bS]
    have e0 : slc (List.take k xs ++ List.replicate (xs.length - k) []) 0 (k : Int) = some (((List.take k xs ++ List.replicate (xs.length - k) []).take k).drop 0) := qYa (a := 0) (Nat.zero_le _) (by simp; omega)
    rw [e0, bS, List.drop_zero, List.take_append_of_le_length (by simp; omega), List.take_take, Nat.min_self, h3]
  · rw [jLa h, dT rfl, cond_true]
    congr 1
    refine (List.filter_eq_self.2 fun a ha => ?_).symm
    cases hg : g a with
    | false => rfl
    | true => exact absurd (List.findIdx_lt_length.2 ⟨a, ha, hg⟩) h
end Go.KB
namespace Go.KB
set_option linter.unusedVariables false
theorem jSc {N : Nat} {l : List Str} {s : Str} (hl : l.length < 1000000) (hN : 1000000 ≤ N) : jQ2 N l s = some (inL l s) := by
 unfold jQ2 jWt
 have h : ((jXm (jZf N l s) N 0).bind fun o5 => Sum.elim (fun l7 => some (-1 : Int)) (fun r8 => some r8) o5) = some (ixI (fun x => decide (s = x)) l) := by
  refine jHj (fun i hi => ?_) ?_ (by omega)
  ·unfold jZf
   rw [jQq, dT (by omega), cond_true, jVw hi, bS, jUd, jDj (by omega)]
  ·unfold jZf
   rw [jQq, dF (by omega), cond_false]
 rw [h, bS, jB4]
 have := jMs (g := fun x => decide (s = x)) (l := l)
 unfold inL
 cases h2 : l.any (fun x => decide (s = x)) with
 | true => rw [h2] at this; simp at this; rw [dT (by omega)]
 | false => rw [h2] at this; simp at this; rw [dF (by omega)]
theorem jSp {N : Nat} {l : List Int} {s : Int} (hl : l.length < 1000000) (hN : 1000000 ≤ N) : jWu N l s = some (l.contains s) := by
 unfold jWu jKy
 have h : ((jXm (jVg N l s) N 0).bind fun o5 => Sum.elim (fun l7 => some (-1 : Int)) (fun r8 => some r8) o5) = some (ixI (fun x => decide (s = x)) l) := by
  refine jHj (fun i hi => ?_) ?_ (by omega)
  ·unfold jVg
   rw [jQq, dT (by omega), cond_true, jVw hi, bS, jU2, jDj (by omega)]
  ·unfold jVg
   rw [jQq, dF (by omega), cond_false]
 rw [h, bS, jB4]
 have := jMs (g := fun x => decide (s = x)) (l := l)
 have e : l.contains s = l.any (fun x => decide (s = x)) := by
  rw [Bool.eq_iff_iff, List.contains_iff_mem, List.any_eq_true]; simp
 rw [e]
 cases h2 : l.any (fun x => decide (s = x)) with
 | true => rw [h2] at this; simp at this; rw [dT (by omega)]
 | false => rw [h2] at this; simp at this; rw [dF (by omega)]
theorem SmP.next {p : GPermitPlan} (hp : SmP p) (s : Str) : (atS p s).Next.length < 1000 := by
 unfold atS jFn
 cases h : p.Spaces.find? (isS s) with
 | none => simp
 | some y => exact hp.n y (List.mem_of_find?_eq_some h)
theorem jP7 {N : Nat} {p : GPermitPlan} {a b : Str} (hp : SmP p) (hN : 1000000 ≤ N) : jYn N p a b = some (jUz p a b) := by
  unfold jYn jUz
  have hs := hp.s
  have h1 := hp.next a
  have h2 := hp.next b
  rw [jHl (by omega) hN, jHl (by omega) hN, bS, bS, jUd]
  by_cases h : a = b
  · rw [dT h, if_pos h]; rfl
  · rw [dF h, if_neg h, cond_false, show jQ2 N (jFn _ (isS a) p.Spaces).1.Next b = _ from jSc (by exact Nat.lt_trans h1 (by decide)) hN, show jQ2 N (jFn _ (isS b) p.Spaces).1.Next a = _ from jSc (by exact Nat.lt_trans h2 (by decide)) hN, bS]
    show ((bif (!inL (atS p a).Next b) then some (inL (atS p b).Next a) else some false).bind fun v4 => bif (inL (atS p a).Next b || v4) then (some (1 : Int)) else (some 2)) = _
    cases inL (atS p a).Next b with
    | true => rfl
    | false => cases inL (atS p b).Next a <;> rfl
theorem qW0 {N : Nat} {p : GPermitPlan} {x : jJg} (hp : SmP p) (hN : 1000000 ≤ N) : jKr N p x = some (jRp p x) := by
 unfold jKr jRp
 have hs := hp.s
 have hlim : lim ≥ 1000000 := by decide
 rw [jHl (by omega) hN, bS]
 have hk : (bif (jJy .eql x.Kind 0) then (some (jJy .eql x.Kind 0)) else (bif (jJy .eql x.Kind 1) then (some (jJy .eql x.Kind 1)) else (some (jJy .eql x.Kind 2)))) = some (jP5 x) := by
  unfold jP5
  simp only [jU2]
  cases decide (x.Kind = 0) <;> cases decide (x.Kind = 1) <;> cases decide (x.Kind = 2) <;> rfl
 rw [hk, bS]
 have ho : (bif jP5 x then (bif (jFn (⟨[], false, []⟩ : jJ4) (isS x.Space) p.Spaces).1.Enclosed then ((app [] [(jFn (⟨[], false, []⟩ : jJ4) (isS x.Space) p.Spaces).1.Name]).bind fun v6 => some v6) else (some [])) else (some [])) = some (bif jP5 x && (atS p x.Space).Enclosed then [(atS p x.Space).Name] else []) := by
  show (bif jP5 x then (bif (atS p x.Space).Enclosed then ((app [] [(atS p x.Space).Name]).bind fun v6 => some v6) else (some [])) else (some [])) = _
  rw [qQ9 (by simp only [List.length_nil, List.length_singleton]; omega)]
  cases jP5 x <;> cases (atS p x.Space).Enclosed <;> rfl
 rw [ho, bS, jU2]
 by_cases h0 : x.Kind = 0
 ·rw [dT h0, cond_true, cond_true]
  rw [qZj (f := jWl N p (jFn (⟨[], false, []⟩ : jJ4) (isS x.Space) p.Spaces)) p.Spaces _ (fun s => s.Enclosed && decide (jUz p s.Name (atS p x.Space).Name = 1)) (fun s => s.Name) (fun a i => (a, i)) (fun a => a) (fun i hi acc hacc => ?_) (fun acc => ?_) (by omega)]
  ·rfl
  ·have hacc' : acc.length ≤ 1 + p.Spaces.length := by
    refine Nat.le_trans hacc (Nat.add_le_add_right ?_ _)
    cases (jP5 x && (atS p x.Space).Enclosed) <;> simp
   unfold jWl
   simp only []
   rw [jQq, dT (by omega), cond_true, jVw hi, bS, jP7 hp hN, jDj (by omega)]
   show ((bif p.Spaces[i].Enclosed then some (jUz p p.Spaces[i].Name (atS p x.Space).Name) else some 0).bind fun v13 => _) = _
   cases p.Spaces[i].Enclosed with
   | false => rfl
   | true =>
    rw [cond_true, bS, Bool.true_and, Bool.true_and, jU2]
    cases decide (jUz p p.Spaces[i].Name (atS p x.Space).Name = 1) with
    | false => rfl
    | true => rw [cond_true, qQ9 (by simp only [List.length_singleton]; omega)]; rfl
  ·unfold jWl
   simp only []
   rw [jQq, dF (by omega), cond_false]
 ·rw [dF h0, cond_false, cond_false, List.append_nil]
theorem qWn {p : GPermitPlan} {x : jJg} (hp : SmP p) : (jRp p x).length < 2000 := by
 have hs := hp.s
 unfold jRp
 rw [List.length_append]
 have h1 : (bif jP5 x && (atS p x.Space).Enclosed then [(atS p x.Space).Name] else []).length ≤ 1 := by cases (jP5 x && (atS p x.Space).Enclosed) <;> simp
 have h2 : (bif decide (x.Kind = 0) then (p.Spaces.filter (fun s => s.Enclosed && decide (jUz p s.Name (atS p x.Space).Name = 1))).map (fun s => s.Name) else []).length ≤ p.Spaces.length := by
  cases decide (x.Kind = 0) with
  | false => exact Nat.zero_le _
  | true => rw [cond_true, List.length_map]; exact List.length_filter_le _ _
 omega
end Go.KB
namespace Go.KB
set_option linter.unusedVariables false
structure AO where
 now : Int
 es : Str → jJj
 ts : Str → Option jJz
 pp : List (Str × Str)
 done : List GEvent
def stA (A : AO) (s : Str) : Int := (A.es s).state
def upA (A : AO) (n : Str) (e : jJj) : AO := { A with es := fun s => bif decide (s = n) then e else A.es s }
def beA (A : AO) (n : Str) (k : Int) : AO := upA A n { A.es n with state := k }
def qK3 (p : GPermitPlan) (A : AO) (s : Str) : Bool := bif !(atS p s).Enclosed then true else match A.ts s with
 | none => false
 | some t => decide (A.now - t.at_ ≤ p.GasMinutes) && decide (195 ≤ t.oxygen) && decide (t.oxygen ≤ 235) && decide (t.gas ≤ 50)
def qKe (p : GPermitPlan) (A : AO) (s : Str) : Bool := bif !(atS p s).Enclosed then true else match A.ts s with
 | none => false
 | some t => decide (A.now - t.at_ ≤ p.GasMinutes) && decide (195 ≤ t.oxygen) && decide (t.oxygen ≤ 235) && decide (t.gas ≤ 50) && decide (t.gas ≤ 10)
def qXk (p : GPermitPlan) (A : AO) (x : jJg) (s : Str) : Bool := bif decide (x.Kind = 0) then qKe p A s else qK3 p A s
def jRn (p : GPermitPlan) (A : AO) (x : jJg) : List Str := (jRp p x).filter fun s => !qXk p A x s
def qQq (A : AO) (x : jJg) : List Str := x.Locks.filter fun s => !decide (stA A s = 2)
def jNn (p : GPermitPlan) (A : AO) (x : jJg) : Bool := !(jRn p A x).isEmpty || !(qQq A x).isEmpty
def qXx (now : Int) (e : jJj) : jJj := bif decide (e.state ≤ 3) && decide (e.to_ ≤ now) then { e with state := 6 } else e
def jR6 (p : GPermitPlan) (A : AO) : AO := { A with es := fun s => bif jUn p s then qXx A.now (A.es s) else A.es s }
def jRh (p : GPermitPlan) (A : AO) : AO := { A with es := fun s => bif jUn p s && decide (stA A s = 2) && jNn p A (atP p s) then { A.es s with state := 3 } else A.es s }
def jZh (p : GPermitPlan) (A : AO) : AO := jRh p (jR6 p A)
def jU9 (p : GPermitPlan) (A : AO) (so : jJg → Bool) : List Str := (p.Permits.filter fun x => decide (stA A x.Name = 2) && so x).map fun x => x.Name
def jMz (A : AO) (so : Str → Bool) : List Str := (A.pp.filter fun q => so q.2).map fun q => q.1
def qVl (p : GPermitPlan) (A : AO) (x : jJg) : List jJ7 :=
 (bif decide (A.now < x.From) then [(⟨2, []⟩ : jJ7)] else []) ++
 (([(⟨18, qQq A x⟩ : jJ7), (⟨20, jU9 p A (fun y => jDn p y x)⟩ : jJ7), (⟨21, jRn p A x⟩ : jJ7)] ++ (bif decide (x.Kind = 3) then [(⟨17, jMz A (fun s => decide (jUz p s x.Space ≤ 1))⟩ : jJ7)] else [])).filter fun r => !r.Names.isEmpty)
def jFu (p : GPermitPlan) (A : AO) (s : Str) : Bool := !(jU9 p A (fun y => decide (y.Kind = 1) && decide (y.Space = s))).isEmpty
def qQg : List (Str × Str) → Str → Str → List (Str × Str)
 | [], n, s => [(n, s)]
 | q :: r, n, s => bif decide (q.1 < n) then q :: qQg r n s else (n, s) :: q :: r
def jLm (A : AO) (e : Int) (l : List Str) : AO × List Str × Int := (A, l, e)
def jTq (A : AO) : AO × List Str × Int := (A, [], 0)
def jN0 (A : AO) (x : GEvent) : AO × List Str × Int := bif !jWv x.Person then jLm A 4 [] else jTq (upA A x.Name { A.es x.Name with state := 1, by_ := x.Person })
def jNb (p : GPermitPlan) (A : AO) (x : GEvent) : AO × List Str × Int :=
 bif !jWv x.Person then jLm A 4 [] else bif decide (x.Person = (A.es x.Name).by_) then jLm A 26 [] else
 match qVl p A (atP p x.Name) with
 | r :: _ => jLm A r.Err r.Names
 | [] => jTq (beA A x.Name 2)
def jM8 (p : GPermitPlan) (A : AO) (x : GEvent) : AO × List Str × Int :=
 let y := atP p x.Name
 bif decide (y.Kind = 5) && !(jU9 p A (fun z => inL z.Locks y.Name)).isEmpty then jLm A 20 (jU9 p A (fun z => inL z.Locks y.Name)) else
 bif decide (y.Kind = 1) && decide (stA A y.Name = 2) && (atS p y.Space).Enclosed && (jU9 p A (fun z => decide (z.Kind = 1) && decide (z.Space = y.Space) && !decide (z.Name = y.Name))).isEmpty && !(jMz A (fun s => decide (s = y.Space))).isEmpty then jLm A 21 (jMz A (fun s => decide (s = y.Space))) else
 jTq (beA A x.Name 4)
def gasA (p : GPermitPlan) (A : AO) (x : GEvent) : AO × List Str × Int :=
 bif !jNe p x.Space then jLm A 6 [] else bif decide (x.Oxygen < 0) || decide (1000 < x.Oxygen) || decide (x.Gas < 0) || decide (1000 < x.Gas) then jLm A 2 [] else
 jTq { A with ts := fun s => bif decide (s = x.Space) then some ⟨A.now, x.Oxygen, x.Gas⟩ else A.ts s }
def jL4 (A : AO) (n : Str) : Bool := A.pp.any fun q => decide (q.1 = n)
def qJ4 (p : GPermitPlan) (A : AO) (x : GEvent) : AO × List Str × Int :=
 bif !jWv x.Person then jLm A 4 [] else bif !jNe p x.Space then jLm A 6 [] else bif jL4 A x.Person then jLm A 18 [] else
 bif (atS p x.Space).Enclosed && !jFu p A x.Space then jLm A 21 [] else
 bif !(jU9 p A (fun y => decide (y.Kind = 3) && decide (jUz p y.Space x.Space ≤ 1))).isEmpty then jLm A 17 (jU9 p A (fun y => decide (y.Kind = 3) && decide (jUz p y.Space x.Space ≤ 1))) else
 jTq { A with pp := qQg A.pp x.Person x.Space }
def qJ0 (A : AO) (x : GEvent) : AO × List Str × Int :=
 bif !jWv x.Person then jLm A 4 [] else bif !jL4 A x.Person then jLm A 6 [] else jTq { A with pp := A.pp.filter fun q => !decide (q.1 = x.Person) }
def qJv (p : GPermitPlan) (A : AO) (x : GEvent) : AO × List Str × Int :=
 bif !jNe p x.Space then jLm A 6 [] else
 jTq { A with es := fun s => bif jUn p s && decide (stA A s = 2) && (!decide ((atP p s).Kind = 5) && decide (jUz p (atP p s).Space x.Space ≤ 1)) then { A.es s with state := 3 } else A.es s }
def jTj (A : AO) (x : GEvent) : AO × List Str × Int :=
 bif !jWv x.Person then jLm A 4 [] else bif decide (x.To ≤ (A.es x.Name).to_) || decide (1000000 < x.To) then jLm A 2 [] else jTq (upA A x.Name { A.es x.Name with to_ := x.To })
def jL1 (op : Int) : Option (List Int) := if op = 1 then some [0] else if op = 2 then some [1] else if op = 3 then some [2] else if op = 4 then some [3] else if op = 5 then some [2, 3] else if op = 6 then some [0, 1] else if op = 11 then some [1, 2, 3] else none
def qZw (p : GPermitPlan) (A : AO) (x : GEvent) : AO × List Str × Int :=
 if x.Op = 0 then jTq A else if x.Op = 1 then jN0 A x else if x.Op = 2 then jNb p A x else if x.Op = 3 then jTq (beA A x.Name 3) else if x.Op = 4 then jNb p A x else
 if x.Op = 5 then jM8 p A x else if x.Op = 6 then jTq (beA A x.Name 5) else if x.Op = 7 then gasA p A x else if x.Op = 8 then qJ4 p A x else if x.Op = 9 then qJ0 A x else
 if x.Op = 10 then qJv p A x else jTj A x
def qVn (p : GPermitPlan) (A : AO) (x : GEvent) : AO × List Str × Int :=
 match jL1 x.Op with
 | none => qZw p A x
 | some l => bif !jUn p x.Name then jLm A 6 [] else bif !l.contains (stA A x.Name) then jLm A 18 [] else qZw p A x
def doA (p : GPermitPlan) (A : AO) (x : GEvent) : AO × List Str × Int :=
 bif decide (x.Op < 0) || decide (12 ≤ x.Op) || decide (x.At < 0) || decide (1000000 < x.At) then jLm A 2 [] else bif decide (x.At < A.now) then jLm A 10 [] else
 let r := qVn p (jZh p { A with now := x.At }) x
 bif decide (r.2.2 = 0) then ({ jZh p r.1 with done := A.done ++ [x] }, [], 0) else r
def qVu (p : GPermitPlan) : AO := jZh p ⟨0, fun s => bif jUn p s then ⟨0, [], (atP p s).To⟩ else ⟨0, [], 0⟩, fun _ => none, [], []⟩
end Go.KB
