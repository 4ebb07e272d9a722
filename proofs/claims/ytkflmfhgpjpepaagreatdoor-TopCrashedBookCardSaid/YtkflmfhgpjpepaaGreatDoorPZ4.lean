/- Posts: their fields; when they are right; their named fields alone. Posts that are right, of the program and of the reference; their named fields alone. The reference's posts: when they are right, their named fields alone. The book: its maps say what its entries say; what stands, what is aimed at, what is refused. Post and Load of the program. The reference: which entry an order, an item has; what is live; when a post is refused; what is loaded. The reference refuses just what is not accepted; what the law loads. No condition. -/
import Derived.Test.YtkflmfhgpjpepaaGreatDoorPZ3
import Derived.Test.YtkflmfhgpjpepaaGreatDoorPZl
namespace Go.KB
set_option linter.unusedVariables false
theorem jPb {s : Str} {i : Nat} (h : i < s.length) : idx (jX2 s) (i : Int) = some (chr s[i]) := by
 rw [jK7 (show i < (jX2 s).length by unfold jX2; rw [List.length_map]; exact h)]
 congr 1
 unfold jX2
 rw [List.getElem_map]; rfl
theorem jFg {s : Str} : (jX2 s).length = s.length := List.length_map ..
theorem qXe {α : Type} {xs : List α} {n : Int} (h : ¬ (0 ≤ n ∧ n < xs.length)) : idx xs n = none := by
 unfold idx
 by_cases h0 : n < 0
 ·rw [if_pos h0]
 ·rw [if_neg h0, List.getElem?_eq_none (by omega)]
theorem qUn (N : Nat) (s : Str) : jW3 N s = qXj s := by
  funext n
  unfold jW3 qXj
  rw [jFg]
  by_cases h : 0 ≤ n ∧ n < s.length
  · obtain ⟨i, rfl⟩ : ∃ i : Nat, n = i := ⟨n.toNat, by omega⟩
    have hi : i < s.length := by omega
    rw [jPb hi, jK7 hi]; rfl
  · rw [qXe (xs := s) h, qXe (xs := jX2 s) (by rw [jFg]; exact h)]; rfl
theorem qYx {N : Nat} {s : Str} (hN : 13 ≤ N) : jKr N s = some (jYb s) := by
 rw [← qJk (N := N) hN]
 unfold jKr qK6 jXe
 rw [qUn, bS, jBz, jDj, jQx, jYf]
 congr 1
 rw [Bool.eq_iff_iff]
 simp only [Bool.not_eq_true', Bool.and_eq_false_iff, decide_eq_false_iff_not, Bool.or_eq_true, decide_eq_true_eq]
 omega
instance : Inhabited GPost := ⟨p0⟩
instance : Inhabited jJb := ⟨⟨none, none, 0, 0⟩⟩
def fT (k : Nat) : jJb := ⟨some k, none, 0, 0⟩
def fN (k : Nat) (lo hi : Int) : jJb := ⟨none, some k, lo, hi⟩
def fl (op : Int) : List jJb :=
 if op = 0 then [fT 2, fT 4]
 else if op = 1 then [fT 2, fT 3, fN 6 0 1000000000]
 else if op = 2 then [fT 2, fT 3, fN 6 (-1000000000) 1000000000]
 else if op = 3 then [fT 2, fT 3, fT 5, fN 6 0 1000000000]
 else if op = 4 then [fN 7 1 400, fT 5, fN 8 0 1]
 else if op = 5 then [fN 7 1 400, fN 6 (-1000000000) 1000000000]
 else if op = 6 then [fT 2]
 else if op = 7 then [fT 2, fN 6 1 1000000000]
 else [fN 7 1 400]
theorem jBy {N : Nat} {g : GPost} : jZw N g = some (fl g.Op) := by
 unfold jZw jQh jX9 fl fT fN
 simp only [jVv, bS, Bool.cond_decide, apply_ite some]
def FOk (f : jJb) : Prop := (∃ k, f = fT k ∧ (k = 2 ∨ k = 3 ∨ k = 4 ∨ k = 5)) ∨ ∃ k lo hi, f = fN k lo hi ∧ (k = 6 ∨ k = 7 ∨ k = 8)
theorem ok_fT {k : Nat} (h : k = 2 ∨ k = 3 ∨ k = 4 ∨ k = 5) : FOk (fT k) := .inl ⟨k, rfl, h⟩
theorem ok_fN {k : Nat} {lo hi : Int} (h : k = 6 ∨ k = 7 ∨ k = 8) : FOk (fN k lo hi) := .inr ⟨k, lo, hi, rfl, h⟩
theorem qJ4 {o : Int} : ∀ f ∈ fl o, FOk f := by
 unfold fl
 repeat' split
 all_goals
  intro f hf
  simp only [List.mem_cons, List.not_mem_nil, or_false] at hf
  rcases hf with rfl | rfl | rfl | rfl <;> first | exact ok_fT (by omega) | exact ok_fN (by omega)
theorem jFt {o : Int} : (fl o).length ≤ 4 := by
 unfold fl
 repeat' split
 all_goals simp
def jPx (p : GPost) (f : jJb) : Int :=
 match f.text, f.number with
 | some k, _ => if jYb ((GPost.gS p k).getD []) = true then 0 else 4
 | none, some k => if f.low ≤ (GPost.gI p k).getD 0 ∧ (GPost.gI p k).getD 0 ≤ f.high then 0 else 2
 | none, none => 0
theorem qYd {N : Nat} (hN : 13 ≤ N) {p : GPost} {v : List jJb} {i : Nat} (hi : i < v.length) (hf : FOk v[i]!) (hl : v.length ≤ 4) :
    jX8 N p v (i : Int) = if jPx p v[i]! = 0 then some (.inl ((i + 1 : Nat) : Int)) else some (.inr (.inr (jPx p v[i]!))) := by
  unfold jX8
  rw [jQx, dT (by omega), cnT, jSv hi, bS, jNk (by omega)]
  generalize v[i]! = f at *
  rcases hf with ⟨k, rfl, hk⟩ | ⟨k, lo, hi', rfl, hk⟩
  · have hk2 : ∃ s, GPost.gS p k = some s := by rcases hk with rfl | rfl | rfl | rfl <;> exact ⟨_, rfl⟩
    obtain ⟨s, hs⟩ := hk2
    unfold jPx fT
    simp only [Option.isSome_some, Option.isSome_none, cnT, cnF, bS, hs, qYx hN, Bool.true_and, Bool.false_and, Option.getD_some]
    cases jYb s <;> rfl
  · have hk2 : ∃ s, GPost.gI p k = some s := by rcases hk with rfl | rfl | rfl <;> exact ⟨_, rfl⟩
    obtain ⟨s, hs⟩ := hk2
    unfold jPx fN jXe
    simp only [Option.isSome_some, Option.isSome_none, cnT, cnF, bS, hs, Bool.true_and, Bool.false_and, Option.getD_some, jBz, jDj]
    by_cases h : lo ≤ s ∧ s ≤ hi'
    · rw [if_pos h, if_pos rfl, dT h.1, dT h.2]; rfl
    · rw [if_neg h, if_neg (by decide), ← Bool.decide_and, dF h]; rfl
def jLu (p : GPost) : Int := if (0 ≤ p.Op ∧ p.Op ≤ 8) ∧ 0 ≤ p.Day ∧ p.Day ≤ 10000 then jVm (fun j => jPx p (fl p.Op)[j]!) (fl p.Op).length 0 else 2
theorem jA1 {N : Nat} (hN : 13 ≤ N) {p : GPost} : jVk N p = some (jLu p) := by
 unfold jVk jXe jLu
 simp only [bS, jBz, jDj, ← Bool.decide_and]
 by_cases h0 : 0 ≤ p.Op ∧ p.Op ≤ 8
 ·by_cases h1 : 0 ≤ p.Day ∧ p.Day ≤ 10000
  ·rw [dT h0, dT h1, if_pos ⟨h0, h1⟩]
   simp only [Bool.not_true, Bool.not_false, cnT, cnF, bS, Bool.or_false, jBy]
   have := jSy (n := (fl p.Op).length) (N := N) (f := jX8 N p (fl p.Op)) (e := fun j => jPx p (fl p.Op)[j]!) (fun i hi _ => qYd hN hi (qJ4 _ (by rw [jLs hi]; exact List.getElem_mem _)) jFt) (by
    intro _
    unfold jX8
    rw [jQx, dF (by omega), cnF]) (by have := jFt (o := p.Op); omega)
   rw [this]
  ·rw [dT h0, dF h1, if_neg (fun h => h1 h.2)]; rfl
 ·rw [dF h0, if_neg (fun h => h0 h.1)]; rfl
end Go.KB
namespace Go.KB
set_option linter.unusedVariables false
def cl (p : GPost) : GPost where
 Op := p.Op
 Day := p.Day
 Order := if p.Op = 4 ∨ p.Op = 5 ∨ p.Op = 8 then [] else p.Order
 Item := if p.Op = 1 ∨ p.Op = 2 ∨ p.Op = 3 then p.Item else []
 Ship := if p.Op = 0 then p.Ship else []
 Who := if p.Op = 3 ∨ p.Op = 4 then p.Who else []
 Amount := if p.Op = 1 ∨ p.Op = 2 ∨ p.Op = 3 ∨ p.Op = 5 ∨ p.Op = 7 then p.Amount else 0
 Ref := if p.Op = 4 ∨ p.Op = 5 ∨ p.Op = 8 then p.Ref else 0
 Role := if p.Op = 4 then p.Role else 0
abbrev Nm (s : Str) : Prop := jYb s = true
theorem Okp.iff {nm : Str → Prop} {p : GPost} : Okp nm p ↔ (0 ≤ p.Op ∧ p.Op ≤ 8) ∧ (0 ≤ p.Day ∧ p.Day ≤ 10000) ∧ (if p.Op = 4 ∨ p.Op = 5 ∨ p.Op = 8 then p.Order = [] else nm p.Order) ∧ (if p.Op = 1 ∨ p.Op = 2 ∨ p.Op = 3 then nm p.Item else p.Item = []) ∧ (if p.Op = 0 then nm p.Ship else p.Ship = []) ∧ (if p.Op = 3 ∨ p.Op = 4 then nm p.Who else p.Who = []) ∧ (if p.Op = 1 ∨ p.Op = 3 then 0 ≤ p.Amount ∧ p.Amount ≤ 1000000000 else if p.Op = 2 ∨ p.Op = 5 then -1000000000 ≤ p.Amount ∧ p.Amount ≤ 1000000000 else if p.Op = 7 then 1 ≤ p.Amount ∧ p.Amount ≤ 1000000000 else p.Amount = 0) ∧
  (if p.Op = 4 ∨ p.Op = 5 ∨ p.Op = 8 then 1 ≤ p.Ref ∧ p.Ref ≤ 400 else p.Ref = 0) ∧ (if p.Op = 4 then 0 ≤ p.Role ∧ p.Role ≤ 1 else p.Role = 0) :=
 ⟨fun h => ⟨h.op, h.day, h.ord, h.itm, h.shp, h.who, h.amt, h.ref, h.rol⟩, fun ⟨a, b, c, d, e, f, g, i, j⟩ => ⟨a, b, c, d, e, f, g, i, j⟩⟩
theorem jL8 {e : Nat → Int} {k : Nat} : jVm e k 0 = 0 ↔ ∀ j, j < k → e j = 0 := by
 constructor
 ·intro h j hj; exact jR8 h j (Nat.zero_le _) (by omega)
 ·intro h
  apply Classical.byContradiction
  intro hc
  obtain ⟨j, _, h2, _, h4, _⟩ := jT9 hc
  exact h4 (h j (by omega))
theorem qJu {α : Type} [Inhabited α] {l : List α} {q : α → Int} : (∀ j, j < l.length → q l[j]! = 0) ↔ ∀ f ∈ l, q f = 0 := by
 constructor
 ·intro h f hf
  obtain ⟨i, hi, e⟩ := List.getElem_of_mem hf
  have := h i hi
  rw [jLs hi, e] at this; exact this
 ·intro h j hj
  rw [jLs hj]; exact h _ (List.getElem_mem _)
theorem if0 {b : Bool} {z : Int} (h : z ≠ 0) : (if b = true then (0 : Int) else z) = 0 ↔ b = true := by cases b <;> simp [h]
theorem if0p {q : Prop} [Decidable q] {z : Int} (h : z ≠ 0) : (if q then (0 : Int) else z) = 0 ↔ q := by by_cases hq : q <;> simp [h, hq]
theorem chkT2 {p : GPost} : jPx p (fT 2) = 0 ↔ Nm p.Order := if0 (by decide)
theorem chkT3 {p : GPost} : jPx p (fT 3) = 0 ↔ Nm p.Item := if0 (by decide)
theorem chkT4 {p : GPost} : jPx p (fT 4) = 0 ↔ Nm p.Ship := if0 (by decide)
theorem chkT5 {p : GPost} : jPx p (fT 5) = 0 ↔ Nm p.Who := if0 (by decide)
theorem chkN6 {p : GPost} {lo hi : Int} : jPx p (fN 6 lo hi) = 0 ↔ lo ≤ p.Amount ∧ p.Amount ≤ hi := if0p (by decide)
theorem chkN7 {p : GPost} {lo hi : Int} : jPx p (fN 7 lo hi) = 0 ↔ lo ≤ p.Ref ∧ p.Ref ≤ hi := if0p (by decide)
theorem chkN8 {p : GPost} {lo hi : Int} : jPx p (fN 8 lo hi) = 0 ↔ lo ≤ p.Role ∧ p.Role ≤ hi := if0p (by decide)
theorem fl0 : fl 0 = [fT 2, fT 4] := rfl
theorem fl1 : fl 1 = [fT 2, fT 3, fN 6 0 1000000000] := rfl
theorem fl2 : fl 2 = [fT 2, fT 3, fN 6 (-1000000000) 1000000000] := rfl
theorem fl3 : fl 3 = [fT 2, fT 3, fT 5, fN 6 0 1000000000] := rfl
theorem fl4 : fl 4 = [fN 7 1 400, fT 5, fN 8 0 1] := rfl
theorem fl5 : fl 5 = [fN 7 1 400, fN 6 (-1000000000) 1000000000] := rfl
theorem fl6 : fl 6 = [fT 2] := rfl
theorem fl7 : fl 7 = [fT 2, fN 6 1 1000000000] := rfl
theorem fl8 : fl 8 = [fN 7 1 400] := rfl
theorem jBb {o : Int} (h : 0 ≤ o ∧ o ≤ 8) : o = 0 ∨ o = 1 ∨ o = 2 ∨ o = 3 ∨ o = 4 ∨ o = 5 ∨ o = 6 ∨ o = 7 ∨ o = 8 := by omega
theorem jMa {p : GPost} : jLu p = 0 ↔ (0 ≤ p.Op ∧ p.Op ≤ 8) ∧ (0 ≤ p.Day ∧ p.Day ≤ 10000) ∧ ∀ f ∈ fl p.Op, jPx p f = 0 := by
 unfold jLu
 by_cases h : (0 ≤ p.Op ∧ p.Op ≤ 8) ∧ 0 ≤ p.Day ∧ p.Day ≤ 10000
 ·rw [if_pos h, jL8, qJu]
  exact ⟨fun k => ⟨h.1, h.2, k⟩, fun k => k.2.2⟩
 ·rw [if_neg h]
  exact ⟨(fun k => by cases k), fun k => absurd ⟨k.1, k.2.1⟩ h⟩
theorem jP9 {p : GPost} : jLu p = 0 ↔ Okp Nm (cl p) := by
 rw [jMa, Okp.iff]
 refine ⟨fun ⟨h, h1, h2⟩ => ⟨h, h1, ?_⟩, fun ⟨h, h1, h2⟩ => ⟨h, h1, ?_⟩⟩
 all_goals
  rcases jBb (show 0 ≤ p.Op ∧ p.Op ≤ 8 from h) with k | k | k | k | k | k | k | k | k
  all_goals
   simp [cl, k, fl0, fl1, fl2, fl3, fl4, fl5, fl6, fl7, fl8, chkT2, chkT3, chkT4, chkT5, chkN6, chkN7, chkN8] at h2 ⊢
   first | exact h2 | exact h2.2.1 | exact ⟨h2.2.1, h2.1, h2.2.2⟩ | simp [h2] | simp_all
def qVh (p out : GPost) (f : jJb) : GPost :=
 match f.text, f.number with
 | some k, _ => (GPost.sS out k ((GPost.gS p k).getD [])).getD out
 | none, some k => (GPost.sI out k ((GPost.gI p k).getD 0)).getD out
 | none, none => out
theorem qVp {N : Nat} {p out : GPost} {v : List jJb} {i : Nat} (hi : i < v.length) (hf : FOk v[i]!) (hl : v.length ≤ 4) :
  jZ0 N p v v ((i : Int), out) = some (.inl (((i + 1 : Nat) : Int), qVh p out v[i]!)) := by
 unfold jZ0
 dsimp only
 rw [jQx, dT (by omega), cnT, jSv hi, bS, jNk (by omega)]
 generalize v[i]! = f at *
 rcases hf with ⟨k, rfl, hk⟩ | ⟨k, lo, hi', rfl, hk⟩
 ·rcases hk with rfl | rfl | rfl | rfl <;> rfl
 ·rcases hk with rfl | rfl | rfl <;> rfl
theorem jNc {α β : Type} [Inhabited β] {g : α → β → α} {l : List β} {a : α} {i : Nat} (h : i < l.length) : (l.take (i + 1)).foldl g a = g ((l.take i).foldl g a) l[i]! := by
 rw [List.take_succ_eq_append_getElem h, List.foldl_append, jLs h]; rfl
theorem qQx {N : Nat} (hN : 5 ≤ N) {p : GPost} (h : 0 ≤ p.Op ∧ p.Op ≤ 8) : jY1 N p = some (cl p) := by
 unfold jY1
 rw [jBy, jBy, bS, bS]
 have := jSu (n := (fl p.Op).length) (N := N) (f := jZ0 N p (fl p.Op) (fl p.Op)) (e := fun _ => 0) (fin := (fl p.Op).foldl (qVh p) ⟨p.Op, p.Day, [], [], [], [], 0, 0, 0⟩) (err := fun _ => p) (fun i => ((i : Int), ((fl p.Op).take i).foldl (qVh p) ⟨p.Op, p.Day, [], [], [], [], 0, 0, 0⟩)) (fun i hi _ => by
   rw [if_pos rfl, qVp hi (qJ4 _ (by rw [jLs hi]; exact List.getElem_mem _)) jFt, jNc hi]) (by
   intro _
   unfold jZ0
   rw [jQx, dF (by omega), cnF, List.take_length]) (by have := jFt (o := p.Op); omega)
 have h0 : (((fl p.Op).take 0).foldl (qVh p) (⟨p.Op, p.Day, [], [], [], [], 0, 0, 0⟩ : GPost)) = ⟨p.Op, p.Day, [], [], [], [], 0, 0, 0⟩ := rfl
 rw [h0] at this
 rw [show ((0 : Nat) : Int) = 0 from rfl] at this
 rw [this, jMk, bS]
 unfold jRr
 rw [if_pos rfl]
 congr 1
 obtain ⟨o, d, a, b, c, e, f, g, i⟩ := p
 dsimp only at h ⊢
 rcases jBb h with rfl | rfl | rfl | rfl | rfl | rfl | rfl | rfl | rfl <;> rfl
end Go.KB
namespace Go.KB
set_option linter.unusedVariables false
def rfs (o : Int) : Str :=
 if o = 0 then [111, 115] else if o = 1 then [111, 105, 97] else if o = 2 then [111, 105, 97] else if o = 3 then [111, 105, 119, 97] else if o = 4 then [114, 119, 108] else if o = 5 then [114, 97] else if o = 6 then [111] else if o = 7 then [111, 97] else [114]
theorem jP6 {N : Nat} {o : Int} (h : 0 ≤ o ∧ o ≤ 8) : jUq N o = some (rfs o) := by
 rcases jBb h with rfl | rfl | rfl | rfl | rfl | rfl | rfl | rfl | rfl <;> rfl
def qKl (p : GPost) : Bool := if p.Op = 1 ∨ p.Op = 3 then inR 0 1000000000 p.Amount else if p.Op = 7 then inR 1 1000000000 p.Amount else inR (-1000000000) 1000000000 p.Amount
theorem qX9 {N : Nat} {p : GPost} : jY3 N p.Op p.Amount = some (qKl p) := by
  unfold jY3 jXg qKl inR
  simp only [jVv, jBz, jDj, bS]
  by_cases h1 : p.Op = 1
  · rw [dT h1, if_pos (.inl h1)]; rfl
  · by_cases h3 : p.Op = 3
    · rw [dF h1, dT h3, if_pos (.inr h3)]; rfl
    · rw [dF h1, dF h3, if_neg (by omega)]
      by_cases h7 : p.Op = 7
      · rw [dT h7, if_pos h7]; rfl
      · rw [dF h7, if_neg h7]; rfl
def RC (c : UInt8) : Prop := c = 111 ∨ c = 105 ∨ c = 115 ∨ c = 119 ∨ c = 97 ∨ c = 114 ∨ c = 108
theorem qKx {o : Int} : ∀ c ∈ rfs o, RC c := by
 unfold rfs
 repeat' split
 all_goals
  intro c hc
  simp only [List.mem_cons, List.not_mem_nil, or_false] at hc
  unfold RC
  rcases hc with rfl | rfl | rfl | rfl <;> decide
theorem jR6 {o : Int} : (rfs o).length ≤ 4 := by
 unfold rfs
 repeat' split
 all_goals simp
def jRv (p : GPost) (c : UInt8) : Int :=
 if c = 111 then (if jYb p.Order = true then 0 else 4) else if c = 105 then (if jYb p.Item = true then 0 else 4) else if c = 115 then (if jYb p.Ship = true then 0 else 4) else if c = 119 then (if jYb p.Who = true then 0 else 4)
 else if c = 97 then (if qKl p = true then 0 else 2) else if c = 114 then (if inR 1 400 p.Ref = true then 0 else 2) else if c = 108 then (if inR 0 1 p.Role = true then 0 else 2) else 0
theorem qXa {N : Nat} (hN : 13 ≤ N) {p : GPost} {v : Str} {i : Nat} (hi : i < v.length) (hf : RC v[i]!) (hl : v.length ≤ 4) :
    jZn N p v (i : Int) = if jRv p v[i]! = 0 then some (.inl ((i + 1 : Nat) : Int)) else some (.inr (.inr (jRv p v[i]!))) := by
  unfold jZn
  rw [jQx, dT (by omega), cnT, jSv hi, bS, bS, jNk (by omega)]
  generalize v[i]! = c at *
  rcases hf with rfl | rfl | rfl | rfl | rfl | rfl | rfl
  · show ((jW4 N p.Order).bind fun v13 => _) = _
    rw [jLl hN, bS]
    rw [show jRv p 111 = (if jYb p.Order = true then (0 : Int) else 4) from rfl]
    cases jYb p.Order <;> rfl
  · show ((jW4 N p.Item).bind fun v13 => _) = _
    rw [jLl hN, bS]
    rw [show jRv p 105 = (if jYb p.Item = true then (0 : Int) else 4) from rfl]
    cases jYb p.Item <;> rfl
  · show ((jW4 N p.Ship).bind fun v13 => _) = _
    rw [jLl hN, bS]
    rw [show jRv p 115 = (if jYb p.Ship = true then (0 : Int) else 4) from rfl]
    cases jYb p.Ship <;> rfl
  · show ((jW4 N p.Who).bind fun v13 => _) = _
    rw [jLl hN, bS]
    rw [show jRv p 119 = (if jYb p.Who = true then (0 : Int) else 4) from rfl]
    cases jYb p.Who <;> rfl
  · show ((jY3 N p.Op p.Amount).bind fun v13 => _) = _
    rw [qX9, bS]
    rw [show jRv p 97 = (if qKl p = true then (0 : Int) else 2) from rfl]
    cases qKl p <;> rfl
  · show ((jXg N p.Ref 1 400).bind fun v13 => _) = _
    rw [show jXg N p.Ref 1 400 = some (inR 1 400 p.Ref) from rfl, bS]
    rw [show jRv p 114 = (if inR 1 400 p.Ref = true then (0 : Int) else 2) from rfl]
    cases inR 1 400 p.Ref <;> rfl
  · show ((jXg N p.Role 0 1).bind fun v13 => _) = _
    rw [show jXg N p.Role 0 1 = some (inR 0 1 p.Role) from rfl, bS]
    rw [show jRv p 108 = (if inR 0 1 p.Role = true then (0 : Int) else 2) from rfl]
    cases inR 0 1 p.Role <;> rfl
def qUv (p : GPost) : Int := if (0 ≤ p.Op ∧ p.Op ≤ 8) ∧ 0 ≤ p.Day ∧ p.Day ≤ 10000 then jVm (fun j => jRv p (rfs p.Op)[j]!) (rfs p.Op).length 0 else 2
theorem qXp {N : Nat} (hN : 13 ≤ N) {p : GPost} : jYn N p = some (qUv p) := by
 unfold jYn jXg qUv
 simp only [bS, jBz, jDj, ← Bool.decide_and]
 by_cases h0 : 0 ≤ p.Op ∧ p.Op ≤ 8
 ·by_cases h1 : 0 ≤ p.Day ∧ p.Day ≤ 10000
  ·rw [dT h0, dT h1, if_pos ⟨h0, h1⟩]
   simp only [Bool.not_true, Bool.not_false, cnT, cnF, bS, Bool.or_false, jP6 h0]
   exact jSy (n := (rfs p.Op).length) (N := N) (f := jZn N p (rfs p.Op)) (e := fun j => jRv p (rfs p.Op)[j]!) (fun i hi _ => qXa hN hi (qKx _ (by rw [jLs hi]; exact List.getElem_mem _)) jR6) (by
    intro _
    unfold jZn
    rw [jQx, dF (by omega), cnF]) (by have := jR6 (o := p.Op); omega)
  ·rw [dT h0, dF h1, if_neg (fun h => h1 h.2)]; rfl
 ·rw [dF h0, if_neg (fun h => h0 h.1)]; rfl
theorem qZ5 {lo hi n : Int} : inR lo hi n = true ↔ lo ≤ n ∧ n ≤ hi := by unfold inR; simp
theorem chkR_o {p : GPost} : jRv p 111 = 0 ↔ Nm p.Order := if0 (by decide)
theorem chkR_i {p : GPost} : jRv p 105 = 0 ↔ Nm p.Item := if0 (by decide)
theorem chkR_s {p : GPost} : jRv p 115 = 0 ↔ Nm p.Ship := if0 (by decide)
theorem chkR_w {p : GPost} : jRv p 119 = 0 ↔ Nm p.Who := if0 (by decide)
theorem chkR_a {p : GPost} : jRv p 97 = 0 ↔ qKl p = true := if0 (by decide)
theorem chkR_r {p : GPost} : jRv p 114 = 0 ↔ 1 ≤ p.Ref ∧ p.Ref ≤ 400 := (if0 (by decide)).trans qZ5
theorem chkR_l {p : GPost} : jRv p 108 = 0 ↔ 0 ≤ p.Role ∧ p.Role ≤ 1 := (if0 (by decide)).trans qZ5
theorem qZy {p : GPost} : qUv p = 0 ↔ Okp Nm (cl p) := by
 have h0 : qUv p = 0 ↔ (0 ≤ p.Op ∧ p.Op ≤ 8) ∧ (0 ≤ p.Day ∧ p.Day ≤ 10000) ∧ ∀ f ∈ rfs p.Op, jRv p f = 0 := by
  unfold qUv
  by_cases h : (0 ≤ p.Op ∧ p.Op ≤ 8) ∧ 0 ≤ p.Day ∧ p.Day ≤ 10000
  ·rw [if_pos h, jL8, qJu]
   exact ⟨fun k => ⟨h.1, h.2, k⟩, fun k => k.2.2⟩
  ·rw [if_neg h]
   exact ⟨(fun k => by cases k), fun k => absurd ⟨k.1, k.2.1⟩ h⟩
 rw [h0, Okp.iff]
 refine ⟨fun ⟨h, h1, h2⟩ => ⟨h, h1, ?_⟩, fun ⟨h, h1, h2⟩ => ⟨h, h1, ?_⟩⟩
 all_goals
  rcases jBb (show 0 ≤ p.Op ∧ p.Op ≤ 8 from h) with k | k | k | k | k | k | k | k | k
  all_goals
   simp [cl, k, rfs, chkR_o, chkR_i, chkR_s, chkR_w, chkR_a, chkR_r, chkR_l, qKl, inR] at h2 ⊢
   first | exact h2 | exact h2.2.1 | exact ⟨h2.2.1, h2.1, h2.2.2⟩ | simp [h2] | simp_all
def setR (p out : GPost) (c : UInt8) : GPost :=
 if c = 111 then { out with Order := p.Order } else if c = 105 then { out with Item := p.Item } else if c = 115 then { out with Ship := p.Ship } else if c = 119 then { out with Who := p.Who } else if c = 97 then { out with Amount := p.Amount } else if c = 114 then { out with Ref := p.Ref } else if c = 108 then { out with Role := p.Role } else out
theorem qZc {N : Nat} {p out : GPost} {v : Str} {i : Nat} (hi : i < v.length) (hf : RC v[i]!) (hl : v.length ≤ 4) :
  jWq N p v (out, (i : Int)) = some (.inl (setR p out v[i]!, ((i + 1 : Nat) : Int))) := by
 unfold jWq
 dsimp only
 rw [jQx, dT (by omega), cnT, jSv hi, bS, jNk (by omega)]
 generalize v[i]! = c at *
 rcases hf with rfl | rfl | rfl | rfl | rfl | rfl | rfl <;> rfl
theorem qXc {N : Nat} (hN : 5 ≤ N) {p : GPost} (h : 0 ≤ p.Op ∧ p.Op ≤ 8) : jUn N p = some (cl p) := by
 unfold jUn
 rw [jP6 h, bS]
 have := jG9 (f := jWq N p (rfs p.Op)) (m := (rfs p.Op).length) (g := fun i => ((rfs p.Op).take i).foldl (setR p) (⟨p.Op, p.Day, [], [], [], [], 0, 0, 0⟩ : GPost)) (r := (rfs p.Op).foldl (setR p) (⟨p.Op, p.Day, [], [], [], [], 0, 0, 0⟩ : GPost)) (fun i hi => by
  rw [qZc hi (qKx _ (by rw [jLs hi]; exact List.getElem_mem _)) jR6, jNc hi]) (by
   unfold jWq
   dsimp only
   rw [jQx, dF (by omega), cnF, List.take_length]) N (by have := jR6 (o := p.Op); omega)
 have h0 : (((rfs p.Op).take 0).foldl (setR p) (⟨p.Op, p.Day, [], [], [], [], 0, 0, 0⟩ : GPost)) = ⟨p.Op, p.Day, [], [], [], [], 0, 0, 0⟩ := rfl
 rw [h0] at this
 rw [this, bS]
 congr 1
 obtain ⟨o, d, a, b, c, e, f, g, i⟩ := p
 dsimp only at h ⊢
 rcases jBb h with rfl | rfl | rfl | rfl | rfl | rfl | rfl | rfl | rfl <;> rfl
end Go.KB
namespace Go.KB
set_option linter.unusedVariables false
structure jHm (g0 : jJq) (o : List (Str × Int)) (it : List (jJy × Int)) (gn : List (Int × Bool)) (m : List GPost) : Prop where
 posts : g0.posts = m
 ord : ∀ x, jXh 0 o x = jUl m x
 itm : ∀ w, jXh 0 it w = jHs m w.order w.item
 gone : ∀ n, jXh false gn n = jFq m n
theorem jGs {m : List GPost} {n : Int} (h : 1 ≤ n) (h1 : n ≤ m.length) : idx m (n - 1) = some (pAt m n) := by
 unfold idx pAt
 rw [if_neg (by omega), List.getElem?_eq_getElem (by omega)]; rfl
section
variable {N : Nat} {g0 : jJq} {o : List (Str × Int)} {it : List (jJy × Int)} {gn : List (Int × Bool)} {m : List GPost}
theorem entry_eq (B : jHm g0 o it gn m) (hl : m.length ≤ 1000) {n : Int} (h : 1 ≤ n) (h1 : n ≤ m.length) : jQw N g0 o it gn n = some (pAt m n) := by
 unfold jQw
 rw [B.posts, jBk (by omega) (by omega), jGs h h1]; rfl
theorem jBs (B : jHm g0 o it gn m) {p : GPost} : jZg N g0 o it gn p = some (jY2 m p) := by
 unfold jZg
 simp only [jVv, B.ord, B.itm]
 by_cases h1 : p.Op = 1
 ·rw [jF7 (.inl h1), dT h1]; rfl
 by_cases h6 : p.Op = 6
 ·rw [jF7 (.inr (.inl h6)), dF h1, dT h6]; rfl
 by_cases h7 : p.Op = 7
 ·rw [jF7 (.inr (.inr h7)), dF h1, dF h6, dT h7]; rfl
 by_cases h2 : p.Op = 2
 ·rw [jPu (.inl h2), dF h1, dF h6, dF h7, dT h2]; rfl
 by_cases h3 : p.Op = 3
 ·rw [jPu (.inr h3), dF h1, dF h6, dF h7, dF h2, dT h3]; rfl
 by_cases h4 : p.Op = 4
 ·rw [jLt (.inl h4), dF h1, dF h6, dF h7, dF h2, dF h3, dT h4]; rfl
 by_cases h5 : p.Op = 5
 ·rw [jLt (.inr h5), dF h1, dF h6, dF h7, dF h2, dF h3, dF h4, dT h5]; rfl
 rw [dF h1, dF h6, dF h7, dF h2, dF h3, dF h4, dF h5]
 rw [base0 (by omega)]; rfl
theorem qZq (B : jHm g0 o it gn m) (b : jD0 m) (hl : m.length ≤ 1000) : ∀ (k : Nat) (n : Int) (M : Nat), 0 ≤ n → n ≤ m.length → n.toNat ≤ k → k < M →
    jZq (jVj N g0 o it gn) M n = some (if jWj m n = true then .inl () else .inr false) := by
  intro k
  induction k using Nat.strongRecOn with
  | _ k ih =>
    intro n M h0 h1 hk hM
    obtain ⟨M, rfl⟩ : ∃ j, M = j + 1 := ⟨M - 1, by omega⟩
    unfold jZq jVj
    by_cases hz : n = 0
    · subst hz
      rw [jYf, dF (by omega), cnF, if_pos (jRj (Int.le_refl 0))]
    · rw [jYf, dT (by omega), cnT, B.gone, entry_eq B hl (by omega) h1, bS, jBs B, bS, jMs b (by omega) h1]
      have hb := b n (by omega) h1
      cases hg : jFq m n with
      | true => rw [cnT]; simp
      | false =>
        rw [cnF]
        simp only [Bool.not_false, Bool.true_and]
        exact ih (k - 1) (by omega) _ M hb.1 (by omega) (by omega) (by omega)
theorem jDe (B : jHm g0 o it gn m) (b : jD0 m) (hl : m.length ≤ 1000) (hN : 2000 ≤ N) {n : Int} (h0 : 0 ≤ n) (h1 : n ≤ m.length) : jQ0 N g0 o it gn n = some (jWj m n) := by
 unfold jQ0
 rw [qZq B b hl n.toNat n N h0 h1 (Nat.le_refl _) (by omega), bS]
 cases jWj m n <;> rfl
theorem jB7 (B : jHm g0 o it gn m) (b : jD0 m) (hl : m.length ≤ 1000) (hN : 2000 ≤ N) {n : Int} (h0 : 0 ≤ n) (h1 : n ≤ m.length) :
  jXw N g0 o it gn n = some (if n = 0 then 6 else if jWj m n = true then 0 else 27) := by
 unfold jXw
 rw [jVv]
 by_cases hz : n = 0
 ·rw [dT hz, if_pos hz]; rfl
 ·rw [dF hz, if_neg hz, cnF, jDe B b hl hN h0 h1, bS]
  cases jWj m n <;> rfl
theorem jGc {n : Int} : (if n = 0 then (6 : Int) else if jWj m n = true then 0 else 27) = 0 ↔ stB m n = true := by
 rw [jH8]
 by_cases hz : n = 0
 ·rw [if_pos hz]; exact ⟨(fun h => by cases h), fun h => absurd hz h.1⟩
 ·rw [if_neg hz]
  cases h : jWj m n
  ·exact ⟨(fun h => by cases h), (fun h => by cases h.2)⟩
  ·exact ⟨fun _ => ⟨hz, rfl⟩, fun _ => rfl⟩
theorem has_eq (B : jHm g0 o it gn m) {n : Int} : jWh N g0 o it gn n = some (decide (1 ≤ n) && decide (n ≤ m.length)) := by
 unfold jWh jXe
 rw [B.posts, jBz, jDj]; rfl
end
theorem indexI {N : Nat} {l : List Int} {x : Int} (hl : l.length < 1000) (hN : 2000 ≤ N) : ∃ r, jVp N l x = some r ∧ (0 ≤ r ↔ x ∈ l) := by
  unfold jVp
  obtain ⟨r, e, h⟩ := jWc (f := jZs N l x) (fun i => 0 ≤ i ∧ i ≤ l.length ∧ ∀ j : Nat, (j : Int) < i → l[j]? ≠ some x) (fun i => l.length - i.toNat) (fun r => match r with | .inl _ => x ∉ l | .inr i => 0 ≤ i ∧ x ∈ l) (by
    rintro i ⟨h0, h1, h2⟩
    obtain ⟨j, rfl⟩ : ∃ j : Nat, i = j := ⟨i.toNat, by omega⟩
    unfold jZs
    by_cases hj : j < l.length
    · rw [jQx, dT (by omega), cnT, jK7 hj, bS, jVv]
      by_cases hx : x = l[j]
      · right
        refine ⟨.inr j, by rw [dT hx]; rfl, by omega, ?_⟩
        rw [hx]; exact List.getElem_mem _
      · left
        refine ⟨((j + 1 : Nat) : Int), by rw [dF hx, cnF, jNk (by omega)], ⟨by omega, by omega, ?_⟩, by omega⟩
        intro k hk
        by_cases hkj : k = j
        · rw [hkj, List.getElem?_eq_getElem hj]; intro e; exact hx (Option.some.inj e).symm
        · exact h2 k (by omega)
    · right
      refine ⟨.inl (), by rw [jQx, dF (by omega), cnF], ?_⟩
      intro hx
      obtain ⟨k, hk, e⟩ := List.getElem_of_mem hx
      exact h2 k (by omega) (by rw [List.getElem?_eq_getElem hk, e])) N 0 ⟨by omega, by omega, fun j hj => by omega⟩ (by omega)
  rw [e, bS]
  cases r with
  | inl u => exact ⟨-1, rfl, by simpa using h⟩
  | inr i => exact ⟨i, rfl, fun _ => h.2, fun _ => h.1⟩
theorem qXr {N : Nat} {l : List Int} {x : Int} (hl : l.length < 1000) (hN : 2000 ≤ N) : jZc N l x = some (decide (x ∈ l)) := by
 unfold jZc
 obtain ⟨r, e, h⟩ := indexI (x := x) hl hN
 rw [e, bS, jBz]
 congr 1
 exact decide_eq_decide.2 h
section
variable {N : Nat} {g0 : jJq} {o : List (Str × Int)} {it : List (jJy × Int)} {gn : List (Int × Bool)} {m : List GPost}
theorem qQt (B : jHm g0 o it gn m) (b : jD0 m) (hl : m.length ≤ 1000) (hN : 2000 ≤ N) {n : Int} {ks : List Int} {f : Int → Bool} (hk : ks.length < 1000) (hf : ∀ x, f x = decide (x ∈ ks)) :
  ∃ e, jZj N g0 o it gn n ks = some e ∧ (e = 0 ↔ qJa m n f = true) := by
 unfold jZj qJa
 rw [has_eq B, bS]
 by_cases h : 1 ≤ n ∧ n ≤ m.length
 ·rw [dT h.1, dT h.2, entry_eq B hl h.1 h.2]
  simp only [Bool.and_self, Bool.not_true, cnF, bS, Bool.true_and]
  rw [qXr hk hN, bS, ← hf]
  cases hfx : f (pAt m n).Op with
  | false => exact ⟨3, rfl, by simp⟩
  | true =>
   simp only [Bool.not_true, cnF, Bool.true_and]
   rw [jB7 B b hl hN (by omega) h.2, bS, if_neg (show ¬ n = 0 by omega)]
   cases jWj m n
   ·exact ⟨27, rfl, by simp⟩
   ·exact ⟨0, rfl, by simp⟩
 ·refine ⟨6, ?_, ?_⟩
  ·rw [← Bool.decide_and, dF h]; rfl
  ·rw [← Bool.decide_and, dF h]; simp
theorem jG0 {l : List GPost} {x : Str} : 0 ≤ jUl l x ∧ jUl l x ≤ l.length := by
 by_cases h : jUl l x = 0
 ·omega
 ·have := jAf h; omega
theorem jFs {l : List GPost} {x y : Str} : 0 ≤ jHs l x y ∧ jHs l x y ≤ l.length := by
 by_cases h : jHs l x y = 0
 ·omega
 ·have := jA6 h; omega
theorem qJr (B : jHm g0 o it gn m) (b : jD0 m) (hl : m.length ≤ 1000) (hN : 2000 ≤ N) {p : GPost} (hp : 0 ≤ p.Op ∧ p.Op ≤ 8) :
  ∃ e, jVz N g0 o it gn p = some e ∧ (e = 0 ↔ jNq m p = true) := by
 unfold jVz
 simp only [jVv, jVx, jYf, B.ord, B.itm]
 rcases jBb hp with k | k | k | k | k | k | k | k | k
 ·rw [qV9 k, k]
  simp only [Int.reduceEq, decide_false, decide_true, cnF, cnT]
  have := jG0 (l := m) (x := p.Order)
  by_cases hz : jUl m p.Order = 0
  ·rw [dF (show ¬ 0 < jUl m p.Order by omega)]; exact ⟨0, rfl, by simp [hz]⟩
  ·rw [dT (show 0 < jUl m p.Order by omega)]; exact ⟨5, rfl, by simp [hz]⟩
 ·rw [qVw k, k]
  simp only [Int.reduceEq, decide_false, decide_true, cnF, cnT]
  rw [jB7 B b hl hN jG0.1 jG0.2, bS]
  by_cases hs : stB m (jUl m p.Order) = true
  ·rw [jGc.2 hs, hs]
   have := jFs (l := m) (x := p.Order) (y := p.Item)
   by_cases hz : jHs m p.Order p.Item = 0
   ·rw [dF (show ¬ 0 < jHs m p.Order p.Item by omega)]; exact ⟨0, rfl, by simp [hz]⟩
   ·rw [dT (show 0 < jHs m p.Order p.Item by omega)]; exact ⟨5, rfl, by simp [hz]⟩
  ·have hn := mt jGc.1 hs
   rw [dF hn]
   exact ⟨_, rfl, by simp [hn, hs]⟩
 ·rw [qQd (.inl k), k]
  simp only [Int.reduceEq, decide_false, decide_true, cnF, cnT]
  rw [jBs B, bS, jPu (.inl k), jB7 B b hl hN jFs.1 jFs.2]
  exact ⟨_, rfl, jGc⟩
 ·rw [qQd (.inr k), k]
  simp only [Int.reduceEq, decide_false, decide_true, cnF, cnT]
  rw [jBs B, bS, jPu (.inr k), jB7 B b hl hN jFs.1 jFs.2]
  exact ⟨_, rfl, jGc⟩
 ·rw [qVb k, k]
  simp only [Int.reduceEq, decide_false, decide_true, cnF, cnT]
  obtain ⟨e, he, h⟩ := qQt (N := N) B b hl hN (n := p.Ref) (ks := [2, 3]) (f := fun o => decide (o = 2) || decide (o = 3)) (by decide) (fun x => by simp)
  rw [he, bS]
  by_cases hz : e = 0
  ·have ha := h.1 hz
   rw [ha, dT hz]
   have hr := jK0.1 ha
   simp only [Bool.not_true, cnF]
   rw [entry_eq B hl hr.1 hr.2.1, bS, jG2]
   cases (decide ((pAt m p.Ref).Op = 3) && decide ((pAt m p.Ref).Who = p.Who))
   ·exact ⟨0, rfl, by simp⟩
   ·exact ⟨26, rfl, by simp⟩
  ·rw [dF hz]
   refine ⟨e, rfl, ?_⟩
   have := mt h.2 hz
   simp [hz, this]
 ·rw [qVy k, k]
  simp only [Int.reduceEq, decide_false, decide_true, cnF, cnT]
  obtain ⟨e, he, h⟩ := qQt (N := N) B b hl hN (n := p.Ref) (ks := [1, 2, 3]) (f := fun o => decide (o = 1) || decide (o = 2) || decide (o = 3)) (by decide) (fun x => by simp [Bool.or_assoc])
  rw [he, bS]
  by_cases hz : e = 0
  ·have ha := h.1 hz
   rw [ha, dT hz]
   have hr := jK0.1 ha
   simp only [Bool.not_true, cnF]
   rw [entry_eq B hl hr.1 hr.2.1, bS, jQx]
   by_cases h2 : (pAt m p.Ref).Op = 2
   ·rw [dT h2]; exact ⟨0, rfl, by simp⟩
   ·rw [dF h2]
    by_cases ha : p.Amount < 0
    ·rw [dT ha]; exact ⟨2, rfl, by simp; omega⟩
    ·rw [dF ha]; exact ⟨0, rfl, by simp; omega⟩
  ·rw [dF hz]
   refine ⟨e, rfl, ?_⟩
   have := mt h.2 hz
   simp [hz, this]
 ·rw [qZp (.inl k), k]
  simp only [Int.reduceEq, decide_false, decide_true, cnF, cnT]
  rw [jBs B, bS, jF7 (.inr (.inl k)), jB7 B b hl hN jG0.1 jG0.2]
  exact ⟨_, rfl, jGc⟩
 ·rw [qZp (.inr k), k]
  simp only [Int.reduceEq, decide_false, decide_true, cnF, cnT]
  rw [jBs B, bS, jF7 (.inr (.inr k)), jB7 B b hl hN jG0.1 jG0.2]
  exact ⟨_, rfl, jGc⟩
 ·rw [ref8 k, k]
  simp only [Int.reduceEq, decide_false, decide_true, cnF, cnT]
  obtain ⟨e, he, h⟩ := qQt (N := N) B b hl hN (n := p.Ref) (ks := [0, 1, 2, 3, 4, 5, 6, 7]) (f := fun o => decide (0 ≤ o) && decide (o ≤ 7)) (by decide) (fun x => by
   rw [← Bool.decide_and]
   refine decide_eq_decide.2 ?_
   simp
   omega)
  rw [he, bS]
  exact ⟨e, rfl, h⟩
end
end Go.KB
namespace Go.KB
set_option linter.unusedVariables false
theorem jMq {α : Type} {xs ys : List α} (h : xs.length + ys.length ≤ 1000000) : app xs ys = some (xs ++ ys) := by
 unfold app
 rw [show Nat.ble (xs.length + ys.length) lim = true by rw [Nat.ble_eq]; exact Nat.le_trans h (by decide), cnT]
def okA (m : List GPost) (p : GPost) : Prop := Okp Nm (cl p) ∧ m.length < 400 ∧ qQm m p = true ∧ jNq m p = true
theorem qK7 {m : List GPost} {p : GPost} (h : 0 ≤ p.Op ∧ p.Op ≤ 8) : jNq m (cl p) = jNq m p := by
 rcases jBb h with k | k | k | k | k | k | k | k | k
 ·rw [qV9 k, qV9 (p := cl p) k]; simp [cl, k]
 ·rw [qVw k, qVw (p := cl p) k]; simp [cl, k]
 ·rw [qQd (.inl k), qQd (p := cl p) (.inl k)]; simp [cl, k]
 ·rw [qQd (.inr k), qQd (p := cl p) (.inr k)]; simp [cl, k]
 ·rw [qVb k, qVb (p := cl p) k]; simp [cl, k]
 ·rw [qVy k, qVy (p := cl p) k]; simp [cl, k]
 ·rw [qZp (.inl k), qZp (p := cl p) (.inl k)]; simp [cl, k]
 ·rw [qZp (.inr k), qZp (p := cl p) (.inr k)]; simp [cl, k]
 ·rw [ref8 k, ref8 (p := cl p) k]; simp [cl, k]
theorem jS9 {nm : Str → Prop} {p : GPost} (h : Okp nm p) : cl p = p := by
 obtain ⟨o, d, a, b, c, e, f, g, i⟩ := p
 obtain ⟨h0, h1, h2, h3, h4, h5, h6, h7, h8⟩ := h
 dsimp only at *
 rcases jBb h0 with rfl | rfl | rfl | rfl | rfl | rfl | rfl | rfl | rfl <;> simp at h2 h3 h4 h5 h6 h7 h8 <;> simp [cl, h2, h3, h4, h5, h6, h7, h8]
theorem Vl.add {m : List GPost} {p : GPost} (v : Vl Nm m) (h : okA m p) : Vl Nm (m ++ [cl p]) := v.snoc h.1 (by rw [qK7 (show 0 ≤ p.Op ∧ p.Op ≤ 8 from h.1.op)]; exact h.2.2.2) h.2.2.1
theorem qJq {m : List GPost} {q : GPost} {x : Str} : jUl (m ++ [q]) x = if jUl m x = 0 then (if jFa x q = true then (m.length : Int) + 1 else 0) else jUl m x := by
 unfold jUl
 rw [jGv (by omega), jGh, show (1 : Int) + (m.length : Int) = (m.length : Int) + 1 by omega]; rfl
theorem qJg {m : List GPost} {q : GPost} {x y : Str} : jHs (m ++ [q]) x y = if jHs m x y = 0 then (if jMy x y q = true then (m.length : Int) + 1 else 0) else jHs m x y := by
 unfold jHs
 rw [jGv (by omega), jGh, show (1 : Int) + (m.length : Int) = (m.length : Int) + 1 by omega]; rfl
theorem jSt {m : List GPost} {q : GPost} {n : Int} : jFq (m ++ [q]) n = (jFq m n || (decide (q.Op = 8) && decide (q.Ref = n))) := by
 unfold jFq
 rw [List.any_append]; simp
theorem qW8 {x : Str} {q : GPost} (h : q.Op ≠ 0) : jFa x q = false := by unfold jFa; rw [dF h]; rfl
theorem qWq {x y : Str} {q : GPost} (h : q.Op ≠ 1) : jMy x y q = false := by unfold jMy; rw [dF h]; rfl
section
variable {N : Nat} {g0 : jJq} {o : List (Str × Int)} {it : List (jJy × Int)} {gn : List (Int × Bool)} {m : List GPost}
theorem jRu {q : GPost} (h : q.Op ≠ 0) (x : Str) : jUl (m ++ [q]) x = jUl m x := by
 rw [qJq, qW8 h]
 split
 ·rename_i hz; rw [hz]; rfl
 ·rfl
theorem jRb {q : GPost} (h : q.Op ≠ 1) (x y : Str) : jHs (m ++ [q]) x y = jHs m x y := by
 rw [qJg, qWq h]
 split
 ·rename_i hz; rw [hz]; rfl
 ·rfl
theorem jNg {q : GPost} (h : q.Op ≠ 8) (n : Int) : jFq (m ++ [q]) n = jFq m n := by
 rw [jSt, dF h]; simp
theorem bk0 (B : jHm g0 o it gn m) {q : GPost} (h : q.Op = 0) (hz : jUl m q.Order = 0) : jHm ⟨m ++ [q]⟩ (jG8 o q.Order ((m.length : Int) + 1)) it gn (m ++ [q]) :=
 ⟨rfl, fun x => by
  rw [jGn, B.ord, qJq]
  by_cases hx : x = q.Order
  ·rw [if_pos hx, hx, if_pos hz, if_pos (by unfold jFa; rw [dT h, dT rfl]; rfl)]
  ·rw [if_neg hx]
   split
   ·rename_i h0; rw [h0, if_neg (by unfold jFa; rw [dF (show ¬ q.Order = x from fun e => hx e.symm)]; simp)]
   ·rfl, fun w => by rw [B.itm, jRb (by omega)], fun n => by rw [B.gone, jNg (by omega)]⟩
theorem qGz {w : jJy} {a b : Str} : w = ⟨a, b⟩ ↔ w.order = a ∧ w.item = b := by
 obtain ⟨x, y⟩ := w
 simp
theorem bk1 (B : jHm g0 o it gn m) {q : GPost} (h : q.Op = 1) (hz : jHs m q.Order q.Item = 0) : jHm ⟨m ++ [q]⟩ o (jG8 it ⟨q.Order, q.Item⟩ ((m.length : Int) + 1)) gn (m ++ [q]) :=
 ⟨rfl, fun x => by rw [B.ord, jRu (by omega)], fun w => by
  rw [jGn, B.itm, qJg]
  by_cases hx : w = ⟨q.Order, q.Item⟩
  ·rw [if_pos hx, hx]
   dsimp only
   rw [if_pos hz, if_pos (by unfold jMy; rw [dT h, dT rfl, dT rfl]; rfl)]
  ·rw [if_neg hx]
   rw [qGz] at hx
   split
   ·rename_i h0
    rw [h0, if_neg (by
     unfold jMy
     intro hc
     simp only [Bool.and_eq_true, decide_eq_true_eq] at hc
     exact hx ⟨hc.1.2.symm, hc.2.symm⟩)]
   ·rfl, fun n => by rw [B.gone, jNg (by omega)]⟩
theorem bk8 (B : jHm g0 o it gn m) {q : GPost} (h : q.Op = 8) : jHm ⟨m ++ [q]⟩ o it (jG8 gn q.Ref true) (m ++ [q]) :=
 ⟨rfl, fun x => by rw [B.ord, jRu (by omega)], fun w => by rw [B.itm, jRb (by omega)], fun n => by
  rw [jGn, B.gone, jSt, dT h]
  by_cases hn : n = q.Ref
  ·rw [if_pos hn, dT hn.symm]; simp
  ·rw [if_neg hn, dF (fun e => hn e.symm)]; simp⟩
theorem bkx (B : jHm g0 o it gn m) {q : GPost} (h0 : q.Op ≠ 0) (h1 : q.Op ≠ 1) (h8 : q.Op ≠ 8) : jHm ⟨m ++ [q]⟩ o it gn (m ++ [q]) :=
 ⟨rfl, fun x => by rw [B.ord, jRu h0], fun w => by rw [B.itm, jRb h1], fun n => by rw [B.gone, jNg h8]⟩
theorem post_eq (B : jHm g0 o it gn m) (v : Vl Nm m) (hl : m.length ≤ 400) (hN : 2000 ≤ N) (p : GPost) :
    ∃ g' o' it' gn' n e, jZm N g0 o it gn p = some (g', o', it', gn', n, e) ∧
      ((okA m p ∧ e = 0 ∧ n = (m.length : Int) + 1 ∧ jHm g' o' it' gn' (m ++ [cl p])) ∨ (¬ okA m p ∧ e ≠ 0 ∧ n = 0 ∧ jHm g' o' it' gn' m)) := by
  unfold jZm
  rw [jA1 (by omega), bS, jVx]
  by_cases hc : jLu p = 0
  · have hok := jP9.1 hc
    have hop : 0 ≤ p.Op ∧ p.Op ≤ 8 := hok.op
    rw [dT hc, B.posts]
    simp only [Bool.not_true, cnF, jVv]
    by_cases h4 : m.length = 400
    · rw [dT (show (m.length : Int) = 400 by omega)]
      exact ⟨g0, o, it, gn, 0, 8, rfl, .inr ⟨fun h => by have := h.2.1; omega, by decide, rfl, B⟩⟩
    · rw [dF (show ¬ (m.length : Int) = 400 by omega), cnF]
      have hday : ((bif jJw .gtr (m.length : Int) 0 then idx m (IntKind.i64.wrap ((m.length : Int) - 1)) else some (⟨0, 0, [], [], [], [], 0, 0, 0⟩ : GPost)).bind fun v2 => (some (jJw .gtr (m.length : Int) 0 && jJw .lss p.Day v2.Day) : Option Bool)) = some (!qQm m p) ∧ ∃ y, (bif jJw .gtr (m.length : Int) 0 then idx m (IntKind.i64.wrap ((m.length : Int) - 1)) else some (⟨0, 0, [], [], [], [], 0, 0, 0⟩ : GPost)) = some y := by
        unfold qQm
        by_cases hm : m = []
        · subst hm; exact ⟨rfl, _, rfl⟩
        · have : 0 < m.length := List.length_pos_iff.2 hm
          rw [jYf, dT (show (0 : Int) < m.length by omega), cnT, jBk (by omega) (by omega), jGs (by omega) (Int.le_refl _), dF hm]
          refine ⟨?_, _, rfl⟩
          rw [bS, jQx, Bool.true_and, Bool.false_or, ← decide_not]
          congr 1
          exact decide_eq_decide.2 (by omega)
      obtain ⟨hd, y, hy⟩ := hday
      rw [hy, bS] at hd
      rw [hy, bS, Option.some.inj hd]
      cases hdb : qQm m p with
      | false => exact ⟨g0, o, it, gn, 0, 10, rfl, .inr ⟨fun h => absurd (hdb.symm.trans h.2.2.1) (by decide), by decide, rfl, B⟩⟩
      | true =>
        simp only [Bool.not_true, cnF]
        obtain ⟨e, he, hr⟩ := qJr (N := N) B v.base (by omega) hN hop
        rw [he, bS, jVx]
        by_cases hz : e = 0
        · have hrb := hr.1 hz
          have hA : okA m p := ⟨hok, by omega, hdb, hrb⟩
          rw [dT hz]
          simp only [Bool.not_true, cnF]
          rw [qQx (by omega) hop, bS, jMq (by simp; omega), bS]
          have hlen : ((m ++ [cl p]).length : Int) = (m.length : Int) + 1 := by rw [List.length_append]; simp
          rw [hlen]
          by_cases k0 : p.Op = 0
          · rw [dT k0]
            have hz : jUl m p.Order = 0 := by rw [qV9 k0] at hrb; simpa using hrb
            have ho : (cl p).Order = p.Order := by simp [cl, k0]
            refine ⟨_, _, _, _, _, _, rfl, .inl ⟨hA, rfl, rfl, ?_⟩⟩
            have := bk0 B (q := cl p) k0 (by rw [ho]; exact hz)
            rw [ho] at this; exact this
          · by_cases k1 : p.Op = 1
            · rw [dF k0, dT k1]
              have hz : jHs m p.Order p.Item = 0 := by rw [qVw k1] at hrb; simp at hrb; exact hrb.2
              have ho : (cl p).Order = p.Order := by simp [cl, k1]
              have hi : (cl p).Item = p.Item := by simp [cl, k1]
              refine ⟨_, _, _, _, _, _, rfl, .inl ⟨hA, rfl, rfl, ?_⟩⟩
              have := bk1 B (q := cl p) k1 (by rw [ho, hi]; exact hz)
              rw [ho, hi] at this; exact this
            · by_cases k8 : p.Op = 8
              · rw [dF k0, dF k1, dT k8]
                have ho : (cl p).Ref = p.Ref := by simp [cl, k8]
                refine ⟨_, _, _, _, _, _, rfl, .inl ⟨hA, rfl, rfl, ?_⟩⟩
                have := bk8 B (q := cl p) k8
                rw [ho] at this; exact this
              · rw [dF k0, dF k1, dF k8]
                exact ⟨_, _, _, _, _, _, rfl, .inl ⟨hA, rfl, rfl, bkx B (q := cl p) k0 k1 k8⟩⟩
        · rw [dF hz]
          exact ⟨g0, o, it, gn, 0, e, rfl, .inr ⟨fun h => hz (hr.2 h.2.2.2), hz, rfl, B⟩⟩
  · rw [dF hc]
    exact ⟨g0, o, it, gn, 0, jLu p, rfl, .inr ⟨fun h => hc (jP9.2 h.1), hc, rfl, B⟩⟩
end
theorem qKg : jHm (⟨[]⟩ : jJq) [] [] [] [] := ⟨rfl, fun _ => rfl, fun _ => rfl, fun _ => rfl⟩
theorem Vl.okA {m : List GPost} (v : Vl Nm m) (hl : m.length ≤ 400) {i : Nat} (hi : i < m.length) : okA (m.take i) m[i]! ∧ m.take (i + 1) = m.take i ++ [cl m[i]!] := by
 have e : m = m.take i ++ m[i] :: m.drop (i + 1) := by
  rw [← List.drop_eq_getElem_cons hi, List.take_append_drop]
 obtain ⟨h1, h2, h3⟩ := v _ _ _ e
 rw [jLs hi]
 have hc := jS9 h1
 refine ⟨⟨by rw [hc]; exact h1, by rw [List.length_take]; omega, h3, h2⟩, ?_⟩
 rw [hc, List.take_succ_eq_append_getElem hi]
theorem qQ7 {N : Nat} {m : List GPost} (v : Vl Nm m) (hl : m.length ≤ 400) (hN : 2000 ≤ N) :
    ∃ g o it gn, jWf N m = some (some (g, o, it, gn), ((m.length : Int), 0)) ∧ jHm g o it gn m := by
  unfold jWf jY4
  obtain ⟨r, e, h⟩ := jWc (f := jW1 N m) (fun s => ∃ i : Nat, s.1 = i ∧ i ≤ m.length ∧ jHm s.2.1 s.2.2.1 s.2.2.2.1 s.2.2.2.2 (m.take i)) (fun s => m.length - s.1.toNat) (fun r => match r with | .inl q => jHm q.1 q.2.1 q.2.2.1 q.2.2.2 m | .inr _ => False) (by
    rintro ⟨s, g, o, it, gn⟩ ⟨i, hs, hi, B⟩
    dsimp only at hs B
    subst hs
    unfold jW1
    by_cases hlt : i < m.length
    · left
      obtain ⟨hA, ht⟩ := v.okA hl hlt
      have vi : Vl Nm (m.take i) := Vl.left (r := m.drop i) (by rw [List.take_append_drop]; exact v)
      obtain ⟨g', o', it', gn', n, e', he, hr⟩ := post_eq (N := N) B vi (by rw [List.length_take]; omega) hN m[i]!
      rcases hr with ⟨_, rfl, rfl, B'⟩ | ⟨hno, _⟩
      · refine ⟨((((i + 1 : Nat) : Int)), g', o', it', gn'), ?_, ⟨i + 1, rfl, by omega, ?_⟩, by dsimp only; omega⟩
        · dsimp only
          rw [jQx, dT (by omega), cnT, jSv hlt, bS, he, bS, jNk (by omega)]; rfl
        · dsimp only; rw [ht]; exact B'
      · exact absurd hA hno
    · right
      obtain rfl : i = m.length := by omega
      rw [List.take_length] at B
      exact ⟨.inl (g, o, it, gn), by dsimp only; rw [jQx, dF (by omega), cnF], B⟩) N (0, (⟨[]⟩ : jJq), [], [], []) ⟨0, rfl, by omega, qKg⟩ (by dsimp only; omega)
  cases r with
  | inr _ => exact h.elim
  | inl q =>
    refine ⟨q.1, q.2.1, q.2.2.1, q.2.2.2, ?_, h⟩
    rw [bS]
    unfold jHr
    dsimp only
    rw [e]; rfl
end Go.KB
namespace Go.KB
set_option linter.unusedVariables false
theorem qU3 {q : GPost → Bool} {l : List GPost} {i : Nat} (hi : i < l.length) (h : q l[i]! = true) (h0 : ∀ j, j < i → q l[j]! = false) : jFk q l 1 = (i : Int) + 1 := by
 have e : l = l.take i ++ l[i] :: l.drop (i + 1) := by rw [← List.drop_eq_getElem_cons hi, List.take_append_drop]
 have hz : jFk q (l.take i) 1 = 0 := by
  rw [jHz (by omega)]
  intro p hp
  obtain ⟨j, hj, rfl⟩ := List.getElem_of_mem hp
  rw [List.length_take] at hj
  have := h0 j (by omega)
  rw [jLs (by omega)] at this
  rw [List.getElem_take]; exact this
 rw [e, jGv (by omega), if_pos hz, jGh]
 rw [jLs hi] at h
 rw [if_pos h, List.length_take]; omega
theorem qQc {q : GPost → Bool} {l : List GPost} (h0 : ∀ j, j < l.length → q l[j]! = false) : jFk q l 1 = 0 := by
 rw [jHz (by omega)]
 intro p hp
 obtain ⟨j, hj, rfl⟩ := List.getElem_of_mem hp
 have := h0 j hj
 rw [jLs hj] at this; exact this
theorem jPt {N : Nat} {l : List GPost} {q : GPost → Bool} {f : Int → Option (Int ⊕ (Unit ⊕ Int))} (hl : l.length ≤ 1000) (hN : 2000 ≤ N)
    (hf : ∀ i : Nat, i < l.length → f (i : Int) = if q l[i]! = true then some (.inr (.inr ((i : Int) + 1))) else some (.inl ((i + 1 : Nat) : Int))) (he : f (l.length : Int) = some (.inr (.inl ()))) :
    ((jZq f N 0).bind fun o => Sum.elim (fun _ => some (0 : Int)) (fun r => some r) o) = some (jFk q l 1) := by
  obtain ⟨r, e, h⟩ := jWc (f := f) (fun s => ∃ i : Nat, s = i ∧ i ≤ l.length ∧ ∀ j, j < i → q l[j]! = false) (fun s => l.length - s.toNat) (fun r => match r with | .inl _ => jFk q l 1 = 0 | .inr x => jFk q l 1 = x) (by
    rintro s ⟨i, rfl, hi, h0⟩
    by_cases hlt : i < l.length
    · rw [hf i hlt]
      by_cases hq : q l[i]! = true
      · right; rw [if_pos hq]; exact ⟨_, rfl, qU3 hlt hq h0⟩
      · left
        rw [if_neg hq]
        refine ⟨_, rfl, ⟨i + 1, rfl, by omega, fun j hj => ?_⟩, by omega⟩
        by_cases hji : j = i
        · rw [hji]; exact Bool.not_eq_true _ ▸ hq
        · exact h0 j (by omega)
    · obtain rfl : i = l.length := by omega
      right
      exact ⟨.inl (), he, qQc h0⟩) N 0 ⟨0, rfl, by omega, fun j hj => by omega⟩ (by omega)
  rw [e, bS]
  cases r with
  | inl u => rw [show jFk q l 1 = 0 from h]; rfl
  | inr x => rw [show jFk q l 1 = x from h]; rfl
section
variable {N : Nat} {l : List GPost}
theorem jSk (hl : l.length ≤ 1000) (hN : 2000 ≤ N) {x : Str} : jK2 N l x = some (jUl l x) := by
 unfold jK2 jUl
 refine jPt hl hN ?_ ?_
 ·intro i hi
  unfold jYe
  rw [jQx, dT (by omega), cnT, jSv hi, bS, jBk (by omega) (by omega)]
  unfold jFa
  rw [jVv]
  by_cases h0 : l[i]!.Op = 0
  ·rw [dT h0, cnT, bS, jG2]
   cases decide (l[i]!.Order = x) <;> rfl
  ·rw [dF h0]; rfl
 ·unfold jYe
  rw [jQx, dF (by omega), cnF]
theorem jMc (hl : l.length ≤ 1000) (hN : 2000 ≤ N) {x y : Str} : jKn N l x y = some (jHs l x y) := by
 unfold jKn jHs
 refine jPt hl hN ?_ ?_
 ·intro i hi
  unfold jKs
  rw [jQx, dT (by omega), cnT, jSv hi, bS, jBk (by omega) (by omega)]
  unfold jMy
  rw [jVv]
  by_cases h0 : l[i]!.Op = 1
  ·rw [dT h0, cnT, bS, jG2]
   by_cases h1 : l[i]!.Order = x
   ·rw [dT h1]
    simp only [Bool.true_and, cnT, bS, jG2]
    cases decide (l[i]!.Item = y) <;> rfl
   ·rw [dF h1]; rfl
  ·rw [dF h0]; rfl
 ·unfold jKs
  rw [jQx, dF (by omega), cnF]
theorem qWs (hl : l.length ≤ 1000) (hN : 2000 ≤ N) {n : Int} (h : 1 ≤ n) (h1 : n ≤ l.length) : jUb N l n = some (jY2 l (pAt l n)) := by
 unfold jUb
 rw [jBk (by omega) (by omega), jGs h h1, bS]
 generalize pAt l n = p
 simp only [jVv, jSk hl hN, jMc hl hN]
 by_cases h1 : p.Op = 1
 ·rw [jF7 (.inl h1), dT h1]; rfl
 by_cases h6 : p.Op = 6
 ·rw [jF7 (.inr (.inl h6)), dF h1, dT h6]; rfl
 by_cases h7 : p.Op = 7
 ·rw [jF7 (.inr (.inr h7)), dF h1, dF h6, dT h7]; rfl
 by_cases h2 : p.Op = 2
 ·rw [jPu (.inl h2), dF h1, dF h6, dF h7, dT h2]; rfl
 by_cases h3 : p.Op = 3
 ·rw [jPu (.inr h3), dF h1, dF h6, dF h7, dF h2, dT h3]; rfl
 by_cases h4 : p.Op = 4
 ·rw [jLt (.inl h4), dF h1, dF h6, dF h7, dF h2, dF h3, dT h4]; rfl
 by_cases h5 : p.Op = 5
 ·rw [jLt (.inr h5), dF h1, dF h6, dF h7, dF h2, dF h3, dF h4, dT h5]; rfl
 rw [dF h1, dF h6, dF h7, dF h2, dF h3, dF h4, dF h5]
 rw [base0 (by omega)]; rfl
theorem qYw (hl : l.length ≤ 1000) (hN : 2000 ≤ N) {n : Int} : jZq (jYp N l n) N 0 = some (if jFq l n = true then .inr false else .inl ()) := by
  obtain ⟨r, e, h⟩ := jWc (f := jYp N l n) (fun s => ∃ i : Nat, s = i ∧ i ≤ l.length ∧ ∀ j, j < i → (decide (l[j]!.Op = 8) && decide (l[j]!.Ref = n)) = false) (fun s => l.length - s.toNat) (fun r => r = if jFq l n = true then .inr false else .inl ()) (by
    rintro s ⟨i, rfl, hi, h0⟩
    unfold jYp
    by_cases hlt : i < l.length
    · rw [jQx, dT (by omega), cnT, jSv hlt, bS, jNk (by omega), jVv]
      have hgo : (decide (l[i]!.Op = 8) && decide (l[i]!.Ref = n)) = true → jFq l n = true := by
        intro hq
        unfold jFq
        rw [List.any_eq_true]
        refine ⟨l[i], List.getElem_mem _, ?_⟩
        rw [jLs hlt] at hq; exact hq
      have hgo2 : (decide (l[i]!.Op = 8) && decide (l[i]!.Ref = n)) = false → ∃ i' : Nat, ((i + 1 : Nat) : Int) = i' ∧ i' ≤ l.length ∧ ∀ j, j < i' → (decide (l[j]!.Op = 8) && decide (l[j]!.Ref = n)) = false := fun hq => ⟨i + 1, rfl, by omega, fun j hj => by
        by_cases hji : j = i
        · rw [hji]; exact hq
        · exact h0 j (by omega)⟩
      by_cases h8 : l[i]!.Op = 8
      · rw [dT h8] at hgo hgo2 ⊢
        rw [cnT, bS, jVv]
        by_cases hr : l[i]!.Ref = n
        · right
          rw [dT hr] at hgo ⊢
          exact ⟨_, rfl, by rw [if_pos (hgo rfl)]⟩
        · left
          rw [dF hr] at hgo2 ⊢
          exact ⟨_, rfl, hgo2 rfl, by omega⟩
      · left
        rw [dF h8] at hgo2 ⊢
        exact ⟨_, rfl, hgo2 rfl, by omega⟩
    · obtain rfl : i = l.length := by omega
      right
      refine ⟨.inl (), by rw [jQx, dF (by omega), cnF], ?_⟩
      rw [if_neg]
      intro hc
      unfold jFq at hc
      rw [List.any_eq_true] at hc
      obtain ⟨p, hp, hq⟩ := hc
      obtain ⟨j, hj, rfl⟩ := List.getElem_of_mem hp
      have := h0 j hj
      rw [jLs hj] at this
      rw [this] at hq; cases hq) N 0 ⟨0, rfl, by omega, fun j hj => by omega⟩ (by omega)
  rw [e, h]
theorem jR4 (b : jD0 l) (hl : l.length ≤ 1000) : ∀ (k : Nat) (n : Int) (M : Nat), n.toNat ≤ k → 2000 + k < M → 1 ≤ n → n ≤ l.length → jW0 M l n = some (jWj l n) := by
 intro k
 induction k using Nat.strongRecOn with
 | _ k ih =>
  intro n M hk hM h h1
  obtain ⟨M, rfl⟩ : ∃ j, M = j + 1 := ⟨M - 1, by omega⟩
  show jUx M (jW0 M) l n = _
  unfold jUx
  rw [qYw hl (by omega), bS, jMs b h h1]
  have hb := b n h h1
  cases jFq l n with
  | true => rfl
  | false =>
   rw [if_neg (by decide)]
   show ((jUb M l n).bind fun v10 => _) = _
   rw [qWs hl (by omega) h h1, bS, jVv]
   by_cases hz : jY2 l (pAt l n) = 0
   ·rw [hz, dT rfl, jRj (Int.le_refl 0)]; rfl
   ·rw [dF hz]
    simp only [Bool.not_false, cnT, Bool.true_and, Bool.false_or]
    rw [ih (k - 1) (by omega) _ M (by omega) (by omega) (by omega) (by omega)]; rfl
theorem jTl (b : jD0 l) (hl : l.length ≤ 1000) (hN : 4000 ≤ N) {n : Int} (h0 : 0 ≤ n) (h1 : n ≤ l.length) : jGx N l n = some (if n = 0 then 6 else if jWj l n = true then 0 else 27) := by
  unfold jGx
  rw [jVv]
  by_cases hz : n = 0
  · rw [dT hz, if_pos hz]; rfl
  · rw [dF hz, if_neg hz, cnF, jR4 b hl n.toNat n N (Nat.le_refl _) (by omega) (by omega) h1, bS]
    cases jWj l n <;> rfl
theorem jL2 (b : jD0 l) (hl : l.length ≤ 1000) (hN : 4000 ≤ N) {n : Int} {ks : List Int} {f : Int → Bool} (hk : ks.length < 1000) (hf : ∀ x, f x = decide (x ∈ ks)) (h : 1 ≤ n) :
    ∃ e, jW6 N l n ks = some e ∧ (e = 0 ↔ qJa l n f = true) := by
  unfold jW6
  by_cases h1 : n ≤ l.length
  · rw [jYf, dF (by omega), cnF]
    obtain ⟨r, e, hr⟩ := jWc (f := jYg N l n ks) (fun s => ∃ i : Nat, s = i ∧ i ≤ ks.length ∧ ∀ j, j < i → ks[j]! ≠ (pAt l n).Op) (fun s => ks.length - s.toNat) (fun r => match r with | .inl _ => (pAt l n).Op ∉ ks | .inr x => (pAt l n).Op ∈ ks ∧ x = if jWj l n = true then 0 else 27) (by
      rintro s ⟨i, rfl, hi, h0⟩
      unfold jYg
      by_cases hlt : i < ks.length
      · rw [jQx, dT (by omega), cnT, jBk (by omega) (by omega), jGs h h1, bS, jSv hlt, bS, jNk (by omega), jVv]
        by_cases hq : (pAt l n).Op = ks[i]!
        · right
          rw [dT hq, cnT, jR4 b hl n.toNat n N (Nat.le_refl _) (by omega) h h1, bS]
          refine ⟨.inr (if jWj l n = true then 0 else 27), ?_, ?_, rfl⟩
          · cases jWj l n <;> rfl
          · rw [hq, jLs hlt]; exact List.getElem_mem _
        · left
          rw [dF hq, cnF]
          refine ⟨_, rfl, ⟨i + 1, rfl, by omega, fun j hj => ?_⟩, by omega⟩
          by_cases hji : j = i
          · rw [hji]; exact fun e => hq e.symm
          · exact h0 j (by omega)
      · obtain rfl : i = ks.length := by omega
        right
        refine ⟨.inl (), by rw [jQx, dF (by omega), cnF], ?_⟩
        intro hm
        obtain ⟨j, hj, e⟩ := List.getElem_of_mem hm
        exact h0 j hj (by rw [jLs hj]; exact e)) N 0 ⟨0, rfl, by omega, fun j hj => by omega⟩ (by omega)
    rw [e, bS]
    cases r with
    | inl u =>
      refine ⟨3, rfl, ?_⟩
      rw [jK0, hf]
      simp only [decide_eq_true_eq]
      exact ⟨(fun h => by cases h), fun hh => absurd hh.2.2.1 hr⟩
    | inr x =>
      refine ⟨x, rfl, ?_⟩
      rw [hr.2, jK0, hf]
      simp only [decide_eq_true_eq]
      cases hlv : jWj l n
      · exact ⟨(fun h => by cases h), (fun hh => by cases hh.2.2.2)⟩
      · exact ⟨fun _ => ⟨h, h1, hr.1, rfl⟩, fun _ => rfl⟩
  · refine ⟨6, ?_, ?_⟩
    · rw [jYf, dT (by omega)]; rfl
    · rw [jK0]
      exact ⟨(fun h => by cases h), fun hh => absurd hh.2.1 h1⟩
end
end Go.KB
namespace Go.KB
set_option linter.unusedVariables false
theorem jCb {N : Nat} {m : List GPost} (v : Vl Nm m) (hl : m.length ≤ 1000) (hN : 4000 ≤ N) (p : GPost) : ∃ e, jKt N m p = some e ∧ (e = 0 ↔ okA m p) := by
  unfold jKt
  rw [qXp (by omega), bS, jVx]
  by_cases hc : qUv p = 0
  · have hok := qZy.1 hc
    have hop : 0 ≤ p.Op ∧ p.Op ≤ 8 := hok.op
    rw [dT hc]
    simp only [Bool.not_true, cnF, jBz]
    by_cases h4 : 400 ≤ m.length
    · rw [dT (show (400 : Int) ≤ m.length by omega)]
      exact ⟨8, rfl, (fun h => by cases h), fun h => by have := h.2.1; omega⟩
    · rw [dF (show ¬ (400 : Int) ≤ m.length by omega), cnF]
      have hday : ((bif jJw .gtr (m.length : Int) 0 then idx m (IntKind.i64.wrap ((m.length : Int) - 1)) else some (⟨0, 0, [], [], [], [], 0, 0, 0⟩ : GPost)).bind fun v2 => (some (jJw .gtr (m.length : Int) 0 && jJw .lss p.Day v2.Day) : Option Bool)) = some (!qQm m p) ∧ ∃ y, (bif jJw .gtr (m.length : Int) 0 then idx m (IntKind.i64.wrap ((m.length : Int) - 1)) else some (⟨0, 0, [], [], [], [], 0, 0, 0⟩ : GPost)) = some y := by
        unfold qQm
        by_cases hm : m = []
        · subst hm; exact ⟨rfl, _, rfl⟩
        · have : 0 < m.length := List.length_pos_iff.2 hm
          rw [jYf, dT (show (0 : Int) < m.length by omega), cnT, jBk (by omega) (by omega), jGs (by omega) (Int.le_refl _), dF hm]
          refine ⟨?_, _, rfl⟩
          rw [bS, jQx, Bool.true_and, Bool.false_or, ← decide_not]
          congr 1
          exact decide_eq_decide.2 (by omega)
      obtain ⟨hd, y, hy⟩ := hday
      rw [hy, bS] at hd
      rw [hy, bS, Option.some.inj hd]
      cases hdb : qQm m p with
      | false => exact ⟨10, rfl, (fun h => by cases h), fun h => absurd (hdb.symm.trans h.2.2.1) (by decide)⟩
      | true =>
        simp only [Bool.not_true, cnF]
        have key : ∀ e : Int, (e = 0 ↔ jNq m p = true) → (e = 0 ↔ okA m p) := fun e h => ⟨fun he => ⟨hok, by omega, hdb, h.1 he⟩, fun hA => h.2 hA.2.2.2⟩
        have b := v.base
        rw [jSk hl (by omega), bS]
        simp only [jVv, jYf]
        rcases jBb hop with k | k | k | k | k | k | k | k | k
        · rw [k]
          simp only [Int.reduceEq, decide_false, decide_true, cnF, cnT]
          have := jG0 (l := m) (x := p.Order)
          by_cases hz : jUl m p.Order = 0
          · rw [dF (show ¬ 0 < jUl m p.Order by omega)]; exact ⟨0, rfl, key 0 (by rw [qV9 k]; simp [hz])⟩
          · rw [dT (show 0 < jUl m p.Order by omega)]; exact ⟨5, rfl, key 5 (by rw [qV9 k]; simp [hz])⟩
        · rw [k]
          simp only [Int.reduceEq, decide_false, decide_true, cnF, cnT]
          rw [jTl b hl hN jG0.1 jG0.2, bS, jVx]
          by_cases hs : stB m (jUl m p.Order) = true
          · rw [jGc.2 hs, jMc hl (by omega), bS]
            have := jFs (l := m) (x := p.Order) (y := p.Item)
            by_cases hz : jHs m p.Order p.Item = 0
            · rw [dF (show ¬ 0 < jHs m p.Order p.Item by omega)]; exact ⟨0, rfl, key 0 (by rw [qVw k, hs]; simp [hz])⟩
            · rw [dT (show 0 < jHs m p.Order p.Item by omega)]; exact ⟨5, rfl, key 5 (by rw [qVw k, hs]; simp [hz])⟩
          · have hn := mt jGc.1 hs
            rw [dF hn]
            exact ⟨_, rfl, key _ (by rw [qVw k]; simp [hn, hs])⟩
        · rw [k]
          simp only [Int.reduceEq, decide_false, decide_true, cnF, cnT, bS]
          rw [jMc hl (by omega), bS, jTl b hl hN jFs.1 jFs.2]
          exact ⟨_, rfl, key _ (by rw [qQd (.inl k)]; exact jGc)⟩
        · rw [k]
          simp only [Int.reduceEq, decide_false, decide_true, cnF, cnT, bS]
          rw [jMc hl (by omega), bS, jTl b hl hN jFs.1 jFs.2]
          exact ⟨_, rfl, key _ (by rw [qQd (.inr k)]; exact jGc)⟩
        · have h1 : 1 ≤ p.Ref := by
            have := hok.ref
            simp [cl, k] at this; exact this.1
          rw [k]
          simp only [Int.reduceEq, decide_false, decide_true, cnF, cnT, bS]
          obtain ⟨e, he, h⟩ := jL2 (N := N) b hl hN (n := p.Ref) (ks := [2, 3]) (f := fun o => decide (o = 2) || decide (o = 3)) (by decide) (fun x => by simp) h1
          rw [he, bS, jVx]
          by_cases hz : e = 0
          · have ha := h.1 hz
            have hr := jK0.1 ha
            rw [dT hz, jBk (by omega) (by omega), jGs hr.1 hr.2.1]
            simp only [Bool.not_true, cnF, bS]
            by_cases h3 : (pAt m p.Ref).Op = 3
            · rw [dT h3]
              simp only [cnT, bS, jG2, Bool.true_and]
              by_cases hw : (pAt m p.Ref).Who = p.Who
              · rw [dT hw]; exact ⟨26, rfl, key 26 (by rw [qVb k, dT h3, dT hw]; simp)⟩
              · rw [dF hw]; exact ⟨0, rfl, key 0 (by rw [qVb k, dF hw, ha]; simp)⟩
            · rw [dF h3]; exact ⟨0, rfl, key 0 (by rw [qVb k, dF h3, ha]; simp)⟩
          · rw [dF hz]
            have := mt h.2 hz
            exact ⟨e, rfl, key e (by rw [qVb k]; simp [hz, this])⟩
        · have h1 : 1 ≤ p.Ref := by
            have := hok.ref
            simp [cl, k] at this; exact this.1
          rw [k]
          simp only [Int.reduceEq, decide_false, decide_true, cnF, cnT, bS]
          obtain ⟨e, he, h⟩ := jL2 (N := N) b hl hN (n := p.Ref) (ks := [1, 2, 3]) (f := fun o => decide (o = 1) || decide (o = 2) || decide (o = 3)) (by decide) (fun x => by simp [Bool.or_assoc]) h1
          rw [he, bS, jVx]
          by_cases hz : e = 0
          · have ha := h.1 hz
            have hr := jK0.1 ha
            rw [dT hz, jBk (by omega) (by omega), jGs hr.1 hr.2.1]
            simp only [Bool.not_true, cnF, bS, jVx, jQx]
            by_cases h2 : (pAt m p.Ref).Op = 2
            · rw [dT h2]; exact ⟨0, rfl, key 0 (by rw [qVy k, dT h2, ha]; simp)⟩
            · rw [dF h2]
              by_cases hn : p.Amount < 0
              · rw [dT hn]; exact ⟨2, rfl, key 2 (by rw [qVy k, dF h2]; simp; omega)⟩
              · rw [dF hn]; exact ⟨0, rfl, key 0 (by rw [qVy k, dF h2, ha]; simp; omega)⟩
          · rw [dF hz]
            have := mt h.2 hz
            exact ⟨e, rfl, key e (by rw [qVy k]; simp [hz, this])⟩
        · rw [k]
          simp only [Int.reduceEq, decide_false, decide_true, cnF, cnT, bS]
          rw [jTl b hl hN jG0.1 jG0.2]
          exact ⟨_, rfl, key _ (by rw [qZp (.inl k)]; exact jGc)⟩
        · rw [k]
          simp only [Int.reduceEq, decide_false, decide_true, cnF, cnT, bS]
          rw [jTl b hl hN jG0.1 jG0.2]
          exact ⟨_, rfl, key _ (by rw [qZp (.inr k)]; exact jGc)⟩
        · have h1 : 1 ≤ p.Ref := by
            have := hok.ref
            simp [cl, k] at this; exact this.1
          rw [k]
          simp only [Int.reduceEq, decide_false, decide_true, cnF, cnT, bS]
          obtain ⟨e, he, h⟩ := jL2 (N := N) b hl hN (n := p.Ref) (ks := [0, 1, 2, 3, 4, 5, 6, 7]) (f := fun o => decide (0 ≤ o) && decide (o ≤ 7)) (by decide) (fun x => by
            rw [← Bool.decide_and]
            refine decide_eq_decide.2 ?_
            simp
            omega) h1
          rw [he, bS]
          exact ⟨e, rfl, key e (by rw [ref8 k]; exact h)⟩
  · rw [dF hc]
    exact ⟨qUv p, rfl, fun h => absurd h hc, fun h => absurd (qZy.2 h.1) hc⟩
theorem qZn {N : Nat} {x : List GPost} (hl : x.length ≤ 400) (hN : 4000 ≤ N) : ∃ m g o it gn, jY0 N x = some (some (g, o, it, gn), m) ∧ Vl Nm m ∧ m.length ≤ x.length ∧ jHm g o it gn m := by
 obtain ⟨m, e, v, hm⟩ := jWc (f := jWd N x) (fun s => ∃ i : Nat, s.2 = i ∧ i ≤ x.length ∧ Vl Nm s.1 ∧ s.1.length ≤ i) (fun s => x.length - s.2.toNat) (fun m => Vl Nm m ∧ m.length ≤ x.length) (by
  rintro ⟨m, s⟩ ⟨i, hs, hi, v, hm⟩
  dsimp only at hs v hm
  subst hs
  unfold jWd
  dsimp only
  by_cases hlt : i < x.length
  ·left
   obtain ⟨e, he, hr⟩ := jCb (N := N) v (by omega) hN x[i]!
   rw [jQx, dT (by omega), cnT, jSv hlt, bS, he, bS, jNk (by omega), jVv]
   by_cases hz : e = 0
   ·have hA := hr.1 hz
    rw [dT hz, cnT, bS, qXc (by omega) (show 0 ≤ x[i]!.Op ∧ x[i]!.Op ≤ 8 from hA.1.op), bS, jMq (by simp; omega), bS]
    exact ⟨_, rfl, ⟨i + 1, rfl, by omega, v.add hA, by simp; omega⟩, by dsimp only; omega⟩
   ·rw [dF hz]
    exact ⟨_, rfl, ⟨i + 1, rfl, by omega, v, by dsimp only; omega⟩, by dsimp only; omega⟩
  ·right
   exact ⟨m, by rw [jQx, dF (by omega), cnF], v, by omega⟩) N ([], 0) ⟨0, rfl, by omega, Vl.nil, Nat.le_refl _⟩ (by dsimp only; omega)
 obtain ⟨g, o, it, gn, hL, B⟩ := qQ7 (N := N) v (by omega) (by omega)
 refine ⟨m, g, o, it, gn, ?_, v, hm, B⟩
 unfold jY0 jUv
 rw [e, bS, hL, bS]
 unfold jHr
 dsimp only
 rw [jVx, jVx, dT rfl, dT rfl]
 rfl
end Go.KB
