/- Plain laws of chapter 7: what a valid plan is, nearness, exclusion, needs. Plain laws of chapter 7: loops that filter, find and delete. Plain laws of chapter 7: near and needs of the program. Plain laws of chapter 7: what an office does, by names. No condition. -/
import Derived.Test.YtekbfkfjhgfieaaGreatPZl
namespace Go.KB
set_option linter.unusedVariables false
def inL (l : List Str) (s : Str) : Bool := l.any (fun x => decide (s = x))
theorem inL_iff {l : List Str} {s : Str} : inL l s = true ↔ s ∈ l := by
 unfold inL; rw [List.any_eq_true]
 constructor
 ·rintro ⟨x, h1, h2⟩; rw [decide_eq_true_eq] at h2; rw [h2]; exact h1
 ·intro h; exact ⟨s, h, by simp⟩
theorem hasS_iff {p : GPermitPlan} {s : Str} : hasS p s = true ↔ ∃ y ∈ p.Spaces, y.Name = s := by
 unfold hasS; rw [List.any_eq_true]; simp [isS]
theorem hasP_iff {p : GPermitPlan} {s : Str} : hasP p s = true ↔ ∃ y ∈ p.Permits, y.Name = s := by
 unfold hasP; rw [List.any_eq_true]; simp [isP]
theorem findO_spec {α : Type} {z : α} {g : α → Bool} {l : List α} (h : l.any g = true) : (findO z g l).1 ∈ l ∧ g (findO z g l).1 = true := by
 unfold findO
 cases h2 : l.find? g with
 | none => rw [List.any_eq_true] at h; obtain ⟨x, hx, hg⟩ := h; exact absurd hg (by simpa using List.find?_eq_none.1 h2 x hx)
 | some y => exact ⟨List.mem_of_find?_eq_some h2, List.find?_some h2⟩
theorem atP_spec {p : GPermitPlan} {s : Str} (h : hasP p s = true) : atP p s ∈ p.Permits ∧ (atP p s).Name = s := by
 have := findO_spec (z := (⟨[], 0, [], 0, 0, []⟩ : GPermit)) h
 exact ⟨this.1, of_decide_eq_true this.2⟩
structure OkP (p : GPermitPlan) : Prop where
 ns : p.Spaces.length ≤ 30
 ne : p.Exclusions.length ≤ 30
 np : p.Permits.length ≤ 20
 gm : 1 ≤ p.GasMinutes ∧ p.GasMinutes ≤ 10000
 sn : ∀ y ∈ p.Spaces, isName y.Name = true
 sd : ∀ i j, i < p.Spaces.length → j < p.Spaces.length → p.Spaces[i]!.Name = p.Spaces[j]!.Name → i = j
 nx : ∀ y ∈ p.Spaces, ∀ n ∈ y.Next, hasS p n = true ∧ n ≠ y.Name
 xk : ∀ e ∈ p.Exclusions, okKind e.A = true ∧ okKind e.B = true ∧ 0 ≤ e.Reach ∧ e.Reach ≤ 2
 pn : ∀ y ∈ p.Permits, isName y.Name = true
 pd : ∀ i j, i < p.Permits.length → j < p.Permits.length → p.Permits[i]!.Name = p.Permits[j]!.Name → i = j
 pk : ∀ y ∈ p.Permits, okKind y.Kind = true ∧ 0 ≤ y.From ∧ y.From < y.To ∧ y.To ≤ 1000000 ∧ hasS p y.Space = true
 lk : ∀ y ∈ p.Permits, ∀ l ∈ y.Locks, hasP p l = true ∧ (atP p l).Kind = 5 ∧ y.Kind ≠ 5
theorem seqE0 {a b : Int} (h : seqE a b = 0) : a = 0 ∧ b = 0 := by
 unfold seqE at h
 by_cases h0 : a = 0
 ·rw [if_pos h0] at h; exact ⟨h0, h⟩
 ·rw [if_neg h0] at h; exact absurd h h0
theorem err_mem {α : Type} [Inhabited α] {l : List α} {e : Nat → Int} {y : α} (h : firstErr e l.length 0 = 0) (hy : y ∈ l) : ∃ i, i < l.length ∧ l[i]! = y ∧ e i = 0 := by
 obtain ⟨i, hi, rfl⟩ := List.getElem_of_mem hy
 exact ⟨i, hi, bang hi, firstErr_zero h i (by omega) (by omega)⟩
theorem dup_inj {nm : Nat → Str} {n : Nat} (h : ∀ i, i < n → dup nm i (nm i) = false) : ∀ i j, i < n → j < n → nm i = nm j → i = j := by
 have key : ∀ i j, i < j → j < n → nm i ≠ nm j := fun i j hij hj he => by
  have := (dup_iff nm (nm j) j).2 ⟨i, hij, he⟩
  rw [h j hj] at this; cases this
 intro i j hi hj he
 rcases Nat.lt_trichotomy i j with h1 | h1 | h1
 ·exact absurd he (key i j h1 hj)
 ·exact h1
 ·exact absurd he.symm (key j i h1 hi)
theorem eSp0 {p : GPermitPlan} {i : Nat} (h : eSp p i = 0) : isName (nmS p i) = true ∧ dup (nmS p) i (nmS p i) = false := by
 unfold eSp at h
 split at h
 ·cases h
 ·rename_i h1
  split at h
  ·cases h
  ·rename_i h2; exact ⟨by simpa using h1, by simpa using h2⟩
theorem ePm0 {p : GPermitPlan} {i : Nat} (h : ePm p i = 0) : isName (nmP p i) = true ∧ dup (nmP p) i (nmP p i) = false ∧ okKind p.Permits[i]!.Kind = true ∧ 0 ≤ p.Permits[i]!.From ∧ p.Permits[i]!.From < p.Permits[i]!.To ∧ p.Permits[i]!.To ≤ 1000000 ∧ hasS p p.Permits[i]!.Space = true := by
 unfold ePm at h
 split at h
 ·cases h
 ·rename_i h1
  split at h
  ·cases h
  ·rename_i h2
   split at h
   ·cases h
   ·rename_i h3
    split at h
    ·cases h
    ·rename_i h4
     simp only [not_or] at h3
     refine ⟨by simpa using h1, by simpa using h2, by simpa using h3.1, by omega, by omega, by omega, by simpa using h4⟩
theorem okP {p : GPermitPlan} (h : checkPlan p = 0) : OkP p := by
 unfold checkPlan at h
 split at h
 ·cases h
 rename_i hb
 split at h
 ·cases h
 rename_i hg
 obtain ⟨h1, h2⟩ := seqE0 h
 obtain ⟨h1, h3⟩ := seqE0 h1
 obtain ⟨h4, h5⟩ := seqE0 h2
 obtain ⟨h5, h6⟩ := seqE0 h5
 refine ⟨by omega, by omega, by omega, by omega, ?_, ?_, ?_, ?_, ?_, ?_, ?_, ?_⟩
 ·intro y hy; obtain ⟨i, hi, rfl, he⟩ := err_mem h1 hy; exact (eSp0 he).1
 ·exact dup_inj (nm := nmS p) fun i hi => (eSp0 (firstErr_zero h1 i (by omega) (by omega))).2
 ·intro y hy n hn
  obtain ⟨i, hi, rfl, he⟩ := err_mem h3 hy
  obtain ⟨j, hj, rfl, he⟩ := err_mem he hn
  unfold eNx at he
  split at he
  ·cases he
  ·rename_i a
   split at he
   ·cases he
   ·rename_i b; exact ⟨by simpa using a, b⟩
 ·intro y hy
  obtain ⟨i, hi, rfl, he⟩ := err_mem h4 hy
  unfold eEx at he
  split at he
  ·cases he
  ·rename_i a; simp only [not_or] at a; exact ⟨by simpa using a.1, by simpa using a.2.1, by omega, by omega⟩
 ·intro y hy; obtain ⟨i, hi, rfl, he⟩ := err_mem h5 hy; exact (ePm0 he).1
 ·exact dup_inj (nm := nmP p) fun i hi => (ePm0 (firstErr_zero h5 i (by omega) (by omega))).2.1
 ·intro y hy; obtain ⟨i, hi, rfl, he⟩ := err_mem h5 hy; exact (ePm0 he).2.2
 ·intro y hy n hn
  obtain ⟨i, hi, rfl, he⟩ := err_mem h6 hy
  obtain ⟨j, hj, rfl, he⟩ := err_mem he hn
  unfold eLk at he
  split at he
  ·cases he
  ·rename_i a
   split at he
   ·cases he
   ·rename_i b; simp only [not_or] at b; exact ⟨by simpa using a, by simpa using b.1, b.2⟩
theorem OkP.sm {p : GPermitPlan} {N : Nat} (hp : SmP p) : SmP p := hp
theorem OkP.atP_at {p : GPermitPlan} (h : OkP p) {x : GPermit} (hx : x ∈ p.Permits) : atP p x.Name = x := by
 have h1 : hasP p x.Name = true := hasP_iff.2 ⟨x, hx, rfl⟩
 obtain ⟨h2, h3⟩ := atP_spec h1
 obtain ⟨i, hi, he⟩ := List.getElem_of_mem h2
 obtain ⟨j, hj, hf⟩ := List.getElem_of_mem hx
 have := h.pd i j hi hj (by rw [bang hi, bang hj, he, hf, h3])
 subst this
 rw [← he, hf]
def nearQ (p : GPermitPlan) (a b : Str) : Int := if a = b then 0 else bif inL (atS p a).Next b || inL (atS p b).Next a then 1 else 2
theorem nearQ_comm (p : GPermitPlan) (a b : Str) : nearQ p a b = nearQ p b a := by
 unfold nearQ
 by_cases h : a = b
 ·subst h; rfl
 ·rw [if_neg h, if_neg (fun x => h x.symm), Bool.or_comm]
def exE (e : GExclusion) (d k m : Int) : Bool := decide (d ≤ e.Reach) && ((decide (e.A = k) && decide (e.B = m)) || (decide (e.A = m) && decide (e.B = k)))
theorem exE_comm (e : GExclusion) (d k m : Int) : exE e d k m = exE e d m k := by unfold exE; rw [Bool.or_comm]
def exclQ (p : GPermitPlan) (x y : GPermit) : Bool := bif decide (x.Name = y.Name) then false else p.Exclusions.any (fun e => exE e (nearQ p x.Space y.Space) x.Kind y.Kind)
theorem exclQ_comm (p : GPermitPlan) (x y : GPermit) : exclQ p x y = exclQ p y x := by
 unfold exclQ
 rw [nearQ_comm p y.Space x.Space, show decide (y.Name = x.Name) = decide (x.Name = y.Name) from decide_eq_decide.2 ⟨Eq.symm, Eq.symm⟩]
 congr 2
 funext e
 exact exE_comm ..
theorem exclQ_self (p : GPermitPlan) (x : GPermit) : exclQ p x x = false := by unfold exclQ; simp
def needK (x : GPermit) : Bool := decide (x.Kind = 0) || (decide (x.Kind = 1) || decide (x.Kind = 2))
def needQ (p : GPermitPlan) (x : GPermit) : List Str := (bif needK x && (atS p x.Space).Enclosed then [(atS p x.Space).Name] else []) ++ (bif decide (x.Kind = 0) then (p.Spaces.filter (fun s => s.Enclosed && decide (nearQ p s.Name (atS p x.Space).Name = 1))).map (fun s => s.Name) else [])
def NearR (p : GPermitPlan) (a b : Str) : Int × Int := if checkPlan p ≠ 0 then (0, checkPlan p) else bif !hasS p a || !hasS p b then (0, 6) else (nearQ p a b, 0)
def ConfR (p : GPermitPlan) (a b : Str) : Bool × Int := if checkPlan p ≠ 0 then (false, checkPlan p) else bif !hasP p a || !hasP p b then (false, 6) else (exclQ p (atP p a) (atP p b), 0)
end Go.KB
namespace Go.KB
set_option linter.unusedVariables false
theorem app7 {α : Type} {xs ys : List α} (h : xs.length + ys.length ≤ lim) : app xs ys = some (xs ++ ys) := by
 unfold app; rw [Nat.ble_eq_true_of_le h]; rfl
end Go.KB
namespace Go.KB
set_option linter.unusedVariables false
theorem ContS_eq {N : Nat} {l : List Str} {s : Str} (hl : l.length < 1000000) (hN : 1000000 ≤ N) : f_slices_Containslstring_string N l s = some (inL l s) := by
 unfold f_slices_Containslstring_string f_slices_Indexlstring_string
 have h : ((loopN (f_slices_Indexlstring_string_L1 N l s) N 0).bind fun o5 => Sum.elim (fun l7 => some (-1 : Int)) (fun r8 => some r8) o5) = some (ixI (fun x => decide (s = x)) l) := by
  refine loop_find (fun i hi => ?_) ?_ (by omega)
  ·unfold f_slices_Indexlstring_string_L1
   rw [cmp_lss, dT (by omega), cond_true, idx_nat hi, bS, cmpS_eql, w64s (by omega)]
  ·unfold f_slices_Indexlstring_string_L1
   rw [cmp_lss, dF (by omega), cond_false]
 rw [h, bS, cmp_geq]
 have := ixI_lt (g := fun x => decide (s = x)) (l := l)
 unfold inL
 cases h2 : l.any (fun x => decide (s = x)) with
 | true => rw [h2] at this; simp at this; rw [dT (by omega)]
 | false => rw [h2] at this; simp at this; rw [dF (by omega)]
theorem SmP.next {p : GPermitPlan} (hp : SmP p) (s : Str) : (atS p s).Next.length < 1000 := by
 unfold atS findO
 cases h : p.Spaces.find? (isS s) with
 | none => simp
 | some y => exact hp.n y (List.mem_of_find?_eq_some h)
theorem near_eq {N : Nat} {p : GPermitPlan} {a b : Str} (hp : SmP p) (hN : 1000000 ≤ N) : f_permit_near N p a b = some (nearQ p a b) := by
  unfold f_permit_near nearQ
  have hs := hp.s
  have h1 := hp.next a
  have h2 := hp.next b
  rw [spaceOf_eq (by omega) hN, spaceOf_eq (by omega) hN, bS, bS, cmpS_eql]
  by_cases h : a = b
  · rw [dT h, if_pos h]; rfl
  · rw [dF h, if_neg h, cond_false, show f_slices_Containslstring_string N (findO _ (isS a) p.Spaces).1.Next b = _ from ContS_eq (by exact Nat.lt_trans h1 (by decide)) hN, show f_slices_Containslstring_string N (findO _ (isS b) p.Spaces).1.Next a = _ from ContS_eq (by exact Nat.lt_trans h2 (by decide)) hN, bS]
    show ((bif (!inL (atS p a).Next b) then some (inL (atS p b).Next a) else some false).bind fun v4 => bif (inL (atS p a).Next b || v4) then (some (1 : Int)) else (some 2)) = _
    cases inL (atS p a).Next b with
    | true => rfl
    | false => cases inL (atS p b).Next a <;> rfl
end Go.KB
namespace Go.KB
set_option linter.unusedVariables false
structure AO where
 now : Int
 es : Str → Gpermit_entry
 ts : Str → Option Gpermit_test
 pp : List (Str × Str)
 done : List GEvent
def stA (A : AO) (s : Str) : Int := (A.es s).state
def goodE (p : GPermitPlan) (A : AO) (s : Str) : Bool := bif !(atS p s).Enclosed then true else match A.ts s with
 | none => false
 | some t => decide (A.now - t.at_ ≤ p.GasMinutes) && decide (195 ≤ t.oxygen) && decide (t.oxygen ≤ 235) && decide (t.gas ≤ 50)
def goodH (p : GPermitPlan) (A : AO) (s : Str) : Bool := bif !(atS p s).Enclosed then true else match A.ts s with
 | none => false
 | some t => decide (A.now - t.at_ ≤ p.GasMinutes) && decide (195 ≤ t.oxygen) && decide (t.oxygen ≤ 235) && decide (t.gas ≤ 50) && decide (t.gas ≤ 10)
def goodA (p : GPermitPlan) (A : AO) (x : GPermit) (s : Str) : Bool := bif decide (x.Kind = 0) then goodH p A s else goodE p A s
def lackA (p : GPermitPlan) (A : AO) (x : GPermit) : List Str := (needQ p x).filter fun s => !goodA p A x s
def unlA (A : AO) (x : GPermit) : List Str := x.Locks.filter fun s => !decide (stA A s = 2)
def badA (p : GPermitPlan) (A : AO) (x : GPermit) : Bool := !(lackA p A x).isEmpty || !(unlA A x).isEmpty
def openA (p : GPermitPlan) (A : AO) (so : GPermit → Bool) : List Str := (p.Permits.filter fun x => decide (stA A x.Name = 2) && so x).map fun x => x.Name
end Go.KB
