/- Posts: their fields; when they are right; their named fields alone. Posts that are right, of the program and of the reference; their named fields alone. The reference's posts: when they are right, their named fields alone. The book: its maps say what its entries say; what stands, what is aimed at, what is refused. Post and Load of the program. No condition. -/
import Derived.Test.YtipapjkpbnjkmaaGreatDoorPZ3
import Derived.Test.YtipapjkpbnjkmaaGreatDoorPZl
namespace Go.KB
set_option linter.unusedVariables false
theorem jP6 {s : Str} {i : Nat} (h : i < s.length) : idx (jZy s) (i : Int) = some (chr s[i]) := by
 rw [jKl (show i < (jZy s).length by unfold jZy; rw [List.length_map]; exact h)]
 congr 1
 unfold jZy
 rw [List.getElem_map]; rfl
theorem jFv {s : Str} : (jZy s).length = s.length := List.length_map ..
theorem qXq {α : Type} {xs : List α} {n : Int} (h : ¬ (0 ≤ n ∧ n < xs.length)) : idx xs n = none := by
 unfold idx
 by_cases h0 : n < 0
 ·rw [if_pos h0]
 ·rw [if_neg h0, List.getElem?_eq_none (by omega)]
theorem qKa (N : Nat) (s : Str) : jYg N s = qZx s := by
  funext n
  unfold jYg qZx
  rw [jFv]
  by_cases h : 0 ≤ n ∧ n < s.length
  · obtain ⟨i, rfl⟩ : ∃ i : Nat, n = i := ⟨n.toNat, by omega⟩
    have hi : i < s.length := by omega
    rw [jP6 hi, jKl hi]; rfl
  · rw [qXq (xs := s) h, qXq (xs := jZy s) (by rw [jFv]; exact h)]; rfl
theorem jSz {N : Nat} {s : Str} (hN : 13 ≤ N) : jYj N s = some (jUf s) := by
 rw [← jAg (N := N) hN]
 unfold jYj qK4 jXf
 rw [qKa, bS, jB9, jBu, jQa, jY9]
 congr 1
 rw [Bool.eq_iff_iff]
 simp only [Bool.not_eq_true', Bool.and_eq_false_iff, decide_eq_false_iff_not, Bool.or_eq_true, decide_eq_true_eq]
 omega
instance : Inhabited jJu := ⟨p0⟩
instance : Inhabited jJd := ⟨⟨none, none, 0, 0⟩⟩
def fT (k : Nat) : jJd := ⟨some k, none, 0, 0⟩
def fN (k : Nat) (lo hi : Int) : jJd := ⟨none, some k, lo, hi⟩
def fl (op : Int) : List jJd :=
 if op = 0 then [fT 2, fT 4]
 else if op = 1 then [fT 2, fT 3, fN 6 0 1000000000]
 else if op = 2 then [fT 2, fT 3, fN 6 (-1000000000) 1000000000]
 else if op = 3 then [fT 2, fT 3, fT 5, fN 6 0 1000000000]
 else if op = 4 then [fN 7 1 400, fT 5, fN 8 0 1]
 else if op = 5 then [fN 7 1 400, fN 6 (-1000000000) 1000000000]
 else if op = 6 then [fT 2]
 else if op = 7 then [fT 2, fN 6 1 1000000000]
 else [fN 7 1 400]
theorem jBb {N : Nat} {g : jJu} : jZa N g = some (fl g.Op) := by
 unfold jZa jQn jZn fl fT fN
 simp only [jV1, bS, Bool.cond_decide, apply_ite some]
def FOk (f : jJd) : Prop := (∃ k, f = fT k ∧ (k = 2 ∨ k = 3 ∨ k = 4 ∨ k = 5)) ∨ ∃ k lo hi, f = fN k lo hi ∧ (k = 6 ∨ k = 7 ∨ k = 8)
theorem ok_fT {k : Nat} (h : k = 2 ∨ k = 3 ∨ k = 4 ∨ k = 5) : FOk (fT k) := .inl ⟨k, rfl, h⟩
theorem ok_fN {k : Nat} {lo hi : Int} (h : k = 6 ∨ k = 7 ∨ k = 8) : FOk (fN k lo hi) := .inr ⟨k, lo, hi, rfl, h⟩
theorem qQg {o : Int} : ∀ f ∈ fl o, FOk f := by
 unfold fl
 repeat' split
 all_goals
  intro f hf
  simp only [List.mem_cons, List.not_mem_nil, or_false] at hf
  rcases hf with rfl | rfl | rfl | rfl <;> first | exact ok_fT (by omega) | exact ok_fN (by omega)
theorem jFh {o : Int} : (fl o).length ≤ 4 := by
 unfold fl
 repeat' split
 all_goals simp
def jPz (p : jJu) (f : jJd) : Int :=
 match f.text, f.number with
 | some k, _ => if jUf ((jJu.gS p k).getD []) = true then 0 else 4
 | none, some k => if f.low ≤ (jJu.gI p k).getD 0 ∧ (jJu.gI p k).getD 0 ≤ f.high then 0 else 2
 | none, none => 0
theorem qVs {N : Nat} (hN : 13 ≤ N) {p : jJu} {v : List jJd} {i : Nat} (hi : i < v.length) (hf : FOk v[i]!) (hl : v.length ≤ 4) :
    jZm N p v (i : Int) = if jPz p v[i]! = 0 then some (.inl ((i + 1 : Nat) : Int)) else some (.inr (.inr (jPz p v[i]!))) := by
  unfold jZm
  rw [jQa, dT (by omega), cnT, qKx hi, bS, jP8 (by omega)]
  generalize v[i]! = f at *
  rcases hf with ⟨k, rfl, hk⟩ | ⟨k, lo, hi', rfl, hk⟩
  · have hk2 : ∃ s, jJu.gS p k = some s := by rcases hk with rfl | rfl | rfl | rfl <;> exact ⟨_, rfl⟩
    obtain ⟨s, hs⟩ := hk2
    unfold jPz fT
    simp only [Option.isSome_some, Option.isSome_none, cnT, cnF, bS, hs, jSz hN, Bool.true_and, Bool.false_and, Option.getD_some]
    cases jUf s <;> rfl
  · have hk2 : ∃ s, jJu.gI p k = some s := by rcases hk with rfl | rfl | rfl <;> exact ⟨_, rfl⟩
    obtain ⟨s, hs⟩ := hk2
    unfold jPz fN jXf
    simp only [Option.isSome_some, Option.isSome_none, cnT, cnF, bS, hs, Bool.true_and, Bool.false_and, Option.getD_some, jB9, jBu]
    by_cases h : lo ≤ s ∧ s ≤ hi'
    · rw [if_pos h, if_pos rfl, dT h.1, dT h.2]; rfl
    · rw [if_neg h, if_neg (by decide), ← Bool.decide_and, dF h]; rfl
def jF2 (p : jJu) : Int := if (0 ≤ p.Op ∧ p.Op ≤ 8) ∧ 0 ≤ p.Day ∧ p.Day ≤ 10000 then jVe (fun j => jPz p (fl p.Op)[j]!) (fl p.Op).length 0 else 2
theorem jR8 {N : Nat} (hN : 13 ≤ N) {p : jJu} : jV2 N p = some (jF2 p) := by
 unfold jV2 jXf jF2
 simp only [bS, jB9, jBu, ← Bool.decide_and]
 by_cases h0 : 0 ≤ p.Op ∧ p.Op ≤ 8
 ·by_cases h1 : 0 ≤ p.Day ∧ p.Day ≤ 10000
  ·rw [dT h0, dT h1, if_pos ⟨h0, h1⟩]
   simp only [Bool.not_true, Bool.not_false, cnT, cnF, bS, Bool.or_false, jBb]
   have := qVg (n := (fl p.Op).length) (N := N) (f := jZm N p (fl p.Op)) (e := fun j => jPz p (fl p.Op)[j]!) (fun i hi _ => qVs hN hi (qQg _ (by rw [jRg hi]; exact List.getElem_mem _)) jFh) (by
    intro _
    unfold jZm
    rw [jQa, dF (by omega), cnF]) (by have := jFh (o := p.Op); omega)
   rw [this]
  ·rw [dT h0, dF h1, if_neg (fun h => h1 h.2)]; rfl
 ·rw [dF h0, if_neg (fun h => h0 h.1)]; rfl
end Go.KB
namespace Go.KB
set_option linter.unusedVariables false
def cl (p : jJu) : jJu where
 Op := p.Op
 Day := p.Day
 Order := if p.Op = 4 ∨ p.Op = 5 ∨ p.Op = 8 then [] else p.Order
 Item := if p.Op = 1 ∨ p.Op = 2 ∨ p.Op = 3 then p.Item else []
 Ship := if p.Op = 0 then p.Ship else []
 Who := if p.Op = 3 ∨ p.Op = 4 then p.Who else []
 Amount := if p.Op = 1 ∨ p.Op = 2 ∨ p.Op = 3 ∨ p.Op = 5 ∨ p.Op = 7 then p.Amount else 0
 Ref := if p.Op = 4 ∨ p.Op = 5 ∨ p.Op = 8 then p.Ref else 0
 Role := if p.Op = 4 then p.Role else 0
abbrev Nm (s : Str) : Prop := jUf s = true
theorem Okp.iff {nm : Str → Prop} {p : jJu} : Okp nm p ↔ (0 ≤ p.Op ∧ p.Op ≤ 8) ∧ (0 ≤ p.Day ∧ p.Day ≤ 10000) ∧ (if p.Op = 4 ∨ p.Op = 5 ∨ p.Op = 8 then p.Order = [] else nm p.Order) ∧ (if p.Op = 1 ∨ p.Op = 2 ∨ p.Op = 3 then nm p.Item else p.Item = []) ∧ (if p.Op = 0 then nm p.Ship else p.Ship = []) ∧ (if p.Op = 3 ∨ p.Op = 4 then nm p.Who else p.Who = []) ∧ (if p.Op = 1 ∨ p.Op = 3 then 0 ≤ p.Amount ∧ p.Amount ≤ 1000000000 else if p.Op = 2 ∨ p.Op = 5 then -1000000000 ≤ p.Amount ∧ p.Amount ≤ 1000000000 else if p.Op = 7 then 1 ≤ p.Amount ∧ p.Amount ≤ 1000000000 else p.Amount = 0) ∧
  (if p.Op = 4 ∨ p.Op = 5 ∨ p.Op = 8 then 1 ≤ p.Ref ∧ p.Ref ≤ 400 else p.Ref = 0) ∧ (if p.Op = 4 then 0 ≤ p.Role ∧ p.Role ≤ 1 else p.Role = 0) :=
 ⟨fun h => ⟨h.op, h.day, h.ord, h.itm, h.shp, h.who, h.amt, h.ref, h.rol⟩, fun ⟨a, b, c, d, e, f, g, i, j⟩ => ⟨a, b, c, d, e, f, g, i, j⟩⟩
theorem jSw {e : Nat → Int} {k : Nat} : jVe e k 0 = 0 ↔ ∀ j, j < k → e j = 0 := by
 constructor
 ·intro h j hj; exact jRh h j (Nat.zero_le _) (by omega)
 ·intro h
  apply Classical.byContradiction
  intro hc
  obtain ⟨j, _, h2, _, h4, _⟩ := jCj hc
  exact h4 (h j (by omega))
theorem qW6 {α : Type} [Inhabited α] {l : List α} {q : α → Int} : (∀ j, j < l.length → q l[j]! = 0) ↔ ∀ f ∈ l, q f = 0 := by
 constructor
 ·intro h f hf
  obtain ⟨i, hi, e⟩ := List.getElem_of_mem hf
  have := h i hi
  rw [jRg hi, e] at this; exact this
 ·intro h j hj
  rw [jRg hj]; exact h _ (List.getElem_mem _)
theorem if0 {b : Bool} {z : Int} (h : z ≠ 0) : (if b = true then (0 : Int) else z) = 0 ↔ b = true := by cases b <;> simp [h]
theorem if0p {q : Prop} [Decidable q] {z : Int} (h : z ≠ 0) : (if q then (0 : Int) else z) = 0 ↔ q := by by_cases hq : q <;> simp [h, hq]
theorem chkT2 {p : jJu} : jPz p (fT 2) = 0 ↔ Nm p.Order := if0 (by decide)
theorem chkT3 {p : jJu} : jPz p (fT 3) = 0 ↔ Nm p.Item := if0 (by decide)
theorem chkT4 {p : jJu} : jPz p (fT 4) = 0 ↔ Nm p.Ship := if0 (by decide)
theorem chkT5 {p : jJu} : jPz p (fT 5) = 0 ↔ Nm p.Who := if0 (by decide)
theorem chkN6 {p : jJu} {lo hi : Int} : jPz p (fN 6 lo hi) = 0 ↔ lo ≤ p.Amount ∧ p.Amount ≤ hi := if0p (by decide)
theorem chkN7 {p : jJu} {lo hi : Int} : jPz p (fN 7 lo hi) = 0 ↔ lo ≤ p.Ref ∧ p.Ref ≤ hi := if0p (by decide)
theorem chkN8 {p : jJu} {lo hi : Int} : jPz p (fN 8 lo hi) = 0 ↔ lo ≤ p.Role ∧ p.Role ≤ hi := if0p (by decide)
theorem fl0 : fl 0 = [fT 2, fT 4] := rfl
theorem fl1 : fl 1 = [fT 2, fT 3, fN 6 0 1000000000] := rfl
theorem fl2 : fl 2 = [fT 2, fT 3, fN 6 (-1000000000) 1000000000] := rfl
theorem fl3 : fl 3 = [fT 2, fT 3, fT 5, fN 6 0 1000000000] := rfl
theorem fl4 : fl 4 = [fN 7 1 400, fT 5, fN 8 0 1] := rfl
theorem fl5 : fl 5 = [fN 7 1 400, fN 6 (-1000000000) 1000000000] := rfl
theorem fl6 : fl 6 = [fT 2] := rfl
theorem fl7 : fl 7 = [fT 2, fN 6 1 1000000000] := rfl
theorem fl8 : fl 8 = [fN 7 1 400] := rfl
theorem jF8 {o : Int} (h : 0 ≤ o ∧ o ≤ 8) : o = 0 ∨ o = 1 ∨ o = 2 ∨ o = 3 ∨ o = 4 ∨ o = 5 ∨ o = 6 ∨ o = 7 ∨ o = 8 := by omega
theorem jNq {p : jJu} : jF2 p = 0 ↔ (0 ≤ p.Op ∧ p.Op ≤ 8) ∧ (0 ≤ p.Day ∧ p.Day ≤ 10000) ∧ ∀ f ∈ fl p.Op, jPz p f = 0 := by
 unfold jF2
 by_cases h : (0 ≤ p.Op ∧ p.Op ≤ 8) ∧ 0 ≤ p.Day ∧ p.Day ≤ 10000
 ·rw [if_pos h, jSw, qW6]
  exact ⟨fun k => ⟨h.1, h.2, k⟩, fun k => k.2.2⟩
 ·rw [if_neg h]
  exact ⟨(fun k => by cases k), fun k => absurd ⟨k.1, k.2.1⟩ h⟩
theorem jP5 {p : jJu} : jF2 p = 0 ↔ Okp Nm (cl p) := by
 rw [jNq, Okp.iff]
 refine ⟨fun ⟨h, h1, h2⟩ => ⟨h, h1, ?_⟩, fun ⟨h, h1, h2⟩ => ⟨h, h1, ?_⟩⟩
 all_goals
  rcases jF8 (show 0 ≤ p.Op ∧ p.Op ≤ 8 from h) with k | k | k | k | k | k | k | k | k
  all_goals
   simp [cl, k, fl0, fl1, fl2, fl3, fl4, fl5, fl6, fl7, fl8, chkT2, chkT3, chkT4, chkT5, chkN6, chkN7, chkN8] at h2 ⊢
   first | exact h2 | exact h2.2.1 | exact ⟨h2.2.1, h2.1, h2.2.2⟩ | simp [h2] | simp_all
def qVm (p out : jJu) (f : jJd) : jJu :=
 match f.text, f.number with
 | some k, _ => (jJu.sS out k ((jJu.gS p k).getD [])).getD out
 | none, some k => (jJu.sI out k ((jJu.gI p k).getD 0)).getD out
 | none, none => out
theorem qV8 {N : Nat} {p out : jJu} {v : List jJd} {i : Nat} (hi : i < v.length) (hf : FOk v[i]!) (hl : v.length ≤ 4) :
  jVw N p v v ((i : Int), out) = some (.inl (((i + 1 : Nat) : Int), qVm p out v[i]!)) := by
 unfold jVw
 dsimp only
 rw [jQa, dT (by omega), cnT, qKx hi, bS, jP8 (by omega)]
 generalize v[i]! = f at *
 rcases hf with ⟨k, rfl, hk⟩ | ⟨k, lo, hi', rfl, hk⟩
 ·rcases hk with rfl | rfl | rfl | rfl <;> rfl
 ·rcases hk with rfl | rfl | rfl <;> rfl
theorem jSa {α β : Type} [Inhabited β] {g : α → β → α} {l : List β} {a : α} {i : Nat} (h : i < l.length) : (l.take (i + 1)).foldl g a = g ((l.take i).foldl g a) l[i]! := by
 rw [List.take_succ_eq_append_getElem h, List.foldl_append, jRg h]; rfl
theorem qQc {N : Nat} (hN : 5 ≤ N) {p : jJu} (h : 0 ≤ p.Op ∧ p.Op ≤ 8) : jKv N p = some (cl p) := by
 unfold jKv
 rw [jBb, jBb, bS, bS]
 have := jTb (n := (fl p.Op).length) (N := N) (f := jVw N p (fl p.Op) (fl p.Op)) (e := fun _ => 0) (fin := (fl p.Op).foldl (qVm p) ⟨p.Op, p.Day, [], [], [], [], 0, 0, 0⟩) (err := fun _ => p) (fun i => ((i : Int), ((fl p.Op).take i).foldl (qVm p) ⟨p.Op, p.Day, [], [], [], [], 0, 0, 0⟩)) (fun i hi _ => by
   rw [if_pos rfl, qV8 hi (qQg _ (by rw [jRg hi]; exact List.getElem_mem _)) jFh, jSa hi]) (by
   intro _
   unfold jVw
   rw [jQa, dF (by omega), cnF, List.take_length]) (by have := jFh (o := p.Op); omega)
 have h0 : (((fl p.Op).take 0).foldl (qVm p) (⟨p.Op, p.Day, [], [], [], [], 0, 0, 0⟩ : jJu)) = ⟨p.Op, p.Day, [], [], [], [], 0, 0, 0⟩ := rfl
 rw [h0] at this
 rw [show ((0 : Nat) : Int) = 0 from rfl] at this
 rw [this, jMg, bS]
 unfold jRp
 rw [if_pos rfl]
 congr 1
 obtain ⟨o, d, a, b, c, e, f, g, i⟩ := p
 dsimp only at h ⊢
 rcases jF8 h with rfl | rfl | rfl | rfl | rfl | rfl | rfl | rfl | rfl <;> rfl
end Go.KB
namespace Go.KB
set_option linter.unusedVariables false
end Go.KB
namespace Go.KB
set_option linter.unusedVariables false
structure jGb (g0 : jJj) (o : List (Str × Int)) (it : List (jJz × Int)) (gn : List (Int × Bool)) (m : List jJu) : Prop where
 posts : g0.posts = m
 ord : ∀ x, jXm 0 o x = jG6 m x
 itm : ∀ w, jXm 0 it w = jFk m w.order w.item
 gone : ∀ n, jXm false gn n = jRe m n
theorem jL1 {m : List jJu} {n : Int} (h : 1 ≤ n) (h1 : n ≤ m.length) : idx m (n - 1) = some (pAt m n) := by
 unfold idx pAt
 rw [if_neg (by omega), List.getElem?_eq_getElem (by omega)]; rfl
section
variable {N : Nat} {g0 : jJj} {o : List (Str × Int)} {it : List (jJz × Int)} {gn : List (Int × Bool)} {m : List jJu}
theorem entry_eq (B : jGb g0 o it gn m) (hl : m.length ≤ 1000) {n : Int} (h : 1 ≤ n) (h1 : n ≤ m.length) : jQz N g0 o it gn n = some (pAt m n) := by
 unfold jQz
 rw [B.posts, jDb (by omega) (by omega), jL1 h h1]; rfl
theorem jBm (B : jGb g0 o it gn m) {p : jJu} : jZc N g0 o it gn p = some (jUy m p) := by
 unfold jZc
 simp only [jV1, B.ord, B.itm]
 by_cases h1 : p.Op = 1
 ·rw [jPg (.inl h1), dT h1]; rfl
 by_cases h6 : p.Op = 6
 ·rw [jPg (.inr (.inl h6)), dF h1, dT h6]; rfl
 by_cases h7 : p.Op = 7
 ·rw [jPg (.inr (.inr h7)), dF h1, dF h6, dT h7]; rfl
 by_cases h2 : p.Op = 2
 ·rw [jT8 (.inl h2), dF h1, dF h6, dF h7, dT h2]; rfl
 by_cases h3 : p.Op = 3
 ·rw [jT8 (.inr h3), dF h1, dF h6, dF h7, dF h2, dT h3]; rfl
 by_cases h4 : p.Op = 4
 ·rw [jT6 (.inl h4), dF h1, dF h6, dF h7, dF h2, dF h3, dT h4]; rfl
 by_cases h5 : p.Op = 5
 ·rw [jT6 (.inr h5), dF h1, dF h6, dF h7, dF h2, dF h3, dF h4, dT h5]; rfl
 rw [dF h1, dF h6, dF h7, dF h2, dF h3, dF h4, dF h5]
 rw [base0 (by omega)]; rfl
theorem qX4 (B : jGb g0 o it gn m) (b : jFl m) (hl : m.length ≤ 1000) : ∀ (k : Nat) (n : Int) (M : Nat), 0 ≤ n → n ≤ m.length → n.toNat ≤ k → k < M →
    jZw (jV4 N g0 o it gn) M n = some (if jYu m n = true then .inl () else .inr false) := by
  intro k
  induction k using Nat.strongRecOn with
  | _ k ih =>
    intro n M h0 h1 hk hM
    obtain ⟨M, rfl⟩ : ∃ j, M = j + 1 := ⟨M - 1, by omega⟩
    unfold jZw jV4
    by_cases hz : n = 0
    · subst hz
      rw [jY9, dF (by omega), cnF, if_pos (qQq (Int.le_refl 0))]
    · rw [jY9, dT (by omega), cnT, B.gone, entry_eq B hl (by omega) h1, bS, jBm B, bS, qJm b (by omega) h1]
      have hb := b n (by omega) h1
      cases hg : jRe m n with
      | true => rw [cnT]; simp
      | false =>
        rw [cnF]
        simp only [Bool.not_false, Bool.true_and]
        exact ih (k - 1) (by omega) _ M hb.1 (by omega) (by omega) (by omega)
theorem jBx (B : jGb g0 o it gn m) (b : jFl m) (hl : m.length ≤ 1000) (hN : 2000 ≤ N) {n : Int} (h0 : 0 ≤ n) (h1 : n ≤ m.length) : jQd N g0 o it gn n = some (jYu m n) := by
 unfold jQd
 rw [qX4 B b hl n.toNat n N h0 h1 (Nat.le_refl _) (by omega), bS]
 cases jYu m n <;> rfl
theorem jB3 (B : jGb g0 o it gn m) (b : jFl m) (hl : m.length ≤ 1000) (hN : 2000 ≤ N) {n : Int} (h0 : 0 ≤ n) (h1 : n ≤ m.length) :
  jQ2 N g0 o it gn n = some (if n = 0 then 6 else if jYu m n = true then 0 else 27) := by
 unfold jQ2
 rw [jV1]
 by_cases hz : n = 0
 ·rw [dT hz, if_pos hz]; rfl
 ·rw [dF hz, if_neg hz, cnF, jBx B b hl hN h0 h1, bS]
  cases jYu m n <;> rfl
theorem jLa {n : Int} : (if n = 0 then (6 : Int) else if jYu m n = true then 0 else 27) = 0 ↔ stB m n = true := by
 rw [jNb]
 by_cases hz : n = 0
 ·rw [if_pos hz]; exact ⟨(fun h => by cases h), fun h => absurd hz h.1⟩
 ·rw [if_neg hz]
  cases h : jYu m n
  ·exact ⟨(fun h => by cases h), (fun h => by cases h.2)⟩
  ·exact ⟨fun _ => ⟨hz, rfl⟩, fun _ => rfl⟩
theorem has_eq (B : jGb g0 o it gn m) {n : Int} : jWk N g0 o it gn n = some (decide (1 ≤ n) && decide (n ≤ m.length)) := by
 unfold jWk jXf
 rw [B.posts, jB9, jBu]; rfl
end
theorem indexI {N : Nat} {l : List Int} {x : Int} (hl : l.length < 1000) (hN : 2000 ≤ N) : ∃ r, jWx N l x = some r ∧ (0 ≤ r ↔ x ∈ l) := by
  unfold jWx
  obtain ⟨r, e, h⟩ := jUx (f := jVx N l x) (fun i => 0 ≤ i ∧ i ≤ l.length ∧ ∀ j : Nat, (j : Int) < i → l[j]? ≠ some x) (fun i => l.length - i.toNat) (fun r => match r with | .inl _ => x ∉ l | .inr i => 0 ≤ i ∧ x ∈ l) (by
    rintro i ⟨h0, h1, h2⟩
    obtain ⟨j, rfl⟩ : ∃ j : Nat, i = j := ⟨i.toNat, by omega⟩
    unfold jVx
    by_cases hj : j < l.length
    · rw [jQa, dT (by omega), cnT, jKl hj, bS, jV1]
      by_cases hx : x = l[j]
      · right
        refine ⟨.inr j, by rw [dT hx]; rfl, by omega, ?_⟩
        rw [hx]; exact List.getElem_mem _
      · left
        refine ⟨((j + 1 : Nat) : Int), by rw [dF hx, cnF, jP8 (by omega)], ⟨by omega, by omega, ?_⟩, by omega⟩
        intro k hk
        by_cases hkj : k = j
        · rw [hkj, List.getElem?_eq_getElem hj]; intro e; exact hx (Option.some.inj e).symm
        · exact h2 k (by omega)
    · right
      refine ⟨.inl (), by rw [jQa, dF (by omega), cnF], ?_⟩
      intro hx
      obtain ⟨k, hk, e⟩ := List.getElem_of_mem hx
      exact h2 k (by omega) (by rw [List.getElem?_eq_getElem hk, e])) N 0 ⟨by omega, by omega, fun j hj => by omega⟩ (by omega)
  rw [e, bS]
  cases r with
  | inl u => exact ⟨-1, rfl, by simpa using h⟩
  | inr i => exact ⟨i, rfl, fun _ => h.2, fun _ => h.1⟩
theorem qVd {N : Nat} {l : List Int} {x : Int} (hl : l.length < 1000) (hN : 2000 ≤ N) : jVq N l x = some (decide (x ∈ l)) := by
 unfold jVq
 obtain ⟨r, e, h⟩ := indexI (x := x) hl hN
 rw [e, bS, jB9]
 congr 1
 exact decide_eq_decide.2 h
section
variable {N : Nat} {g0 : jJj} {o : List (Str × Int)} {it : List (jJz × Int)} {gn : List (Int × Bool)} {m : List jJu}
theorem jA4 (B : jGb g0 o it gn m) (b : jFl m) (hl : m.length ≤ 1000) (hN : 2000 ≤ N) {n : Int} {ks : List Int} {f : Int → Bool} (hk : ks.length < 1000) (hf : ∀ x, f x = decide (x ∈ ks)) :
  ∃ e, jXu N g0 o it gn n ks = some e ∧ (e = 0 ↔ qVn m n f = true) := by
 unfold jXu qVn
 rw [has_eq B, bS]
 by_cases h : 1 ≤ n ∧ n ≤ m.length
 ·rw [dT h.1, dT h.2, entry_eq B hl h.1 h.2]
  simp only [Bool.and_self, Bool.not_true, cnF, bS, Bool.true_and]
  rw [qVd hk hN, bS, ← hf]
  cases hfx : f (pAt m n).Op with
  | false => exact ⟨3, rfl, by simp⟩
  | true =>
   simp only [Bool.not_true, cnF, Bool.true_and]
   rw [jB3 B b hl hN (by omega) h.2, bS, if_neg (show ¬ n = 0 by omega)]
   cases jYu m n
   ·exact ⟨27, rfl, by simp⟩
   ·exact ⟨0, rfl, by simp⟩
 ·refine ⟨6, ?_, ?_⟩
  ·rw [← Bool.decide_and, dF h]; rfl
  ·rw [← Bool.decide_and, dF h]; simp
theorem jFm {l : List jJu} {x : Str} : 0 ≤ jG6 l x ∧ jG6 l x ≤ l.length := by
 by_cases h : jG6 l x = 0
 ·omega
 ·have := qZe h; omega
theorem jPp {l : List jJu} {x y : Str} : 0 ≤ jFk l x y ∧ jFk l x y ≤ l.length := by
 by_cases h : jFk l x y = 0
 ·omega
 ·have := qXz h; omega
theorem qQy (B : jGb g0 o it gn m) (b : jFl m) (hl : m.length ≤ 1000) (hN : 2000 ≤ N) {p : jJu} (hp : 0 ≤ p.Op ∧ p.Op ≤ 8) :
  ∃ e, jX9 N g0 o it gn p = some e ∧ (e = 0 ↔ jPv m p = true) := by
 unfold jX9
 simp only [jV1, jYl, jY9, B.ord, B.itm]
 rcases jF8 hp with k | k | k | k | k | k | k | k | k
 ·rw [ref0 k, k]
  simp only [Int.reduceEq, decide_false, decide_true, cnF, cnT]
  have := jFm (l := m) (x := p.Order)
  by_cases hz : jG6 m p.Order = 0
  ·rw [dF (show ¬ 0 < jG6 m p.Order by omega)]; exact ⟨0, rfl, by simp [hz]⟩
  ·rw [dT (show 0 < jG6 m p.Order by omega)]; exact ⟨5, rfl, by simp [hz]⟩
 ·rw [ref1 k, k]
  simp only [Int.reduceEq, decide_false, decide_true, cnF, cnT]
  rw [jB3 B b hl hN jFm.1 jFm.2, bS]
  by_cases hs : stB m (jG6 m p.Order) = true
  ·rw [jLa.2 hs, hs]
   have := jPp (l := m) (x := p.Order) (y := p.Item)
   by_cases hz : jFk m p.Order p.Item = 0
   ·rw [dF (show ¬ 0 < jFk m p.Order p.Item by omega)]; exact ⟨0, rfl, by simp [hz]⟩
   ·rw [dT (show 0 < jFk m p.Order p.Item by omega)]; exact ⟨5, rfl, by simp [hz]⟩
  ·have hn := mt jLa.1 hs
   rw [dF hn]
   exact ⟨_, rfl, by simp [hn, hs]⟩
 ·rw [qY3 (.inl k), k]
  simp only [Int.reduceEq, decide_false, decide_true, cnF, cnT]
  rw [jBm B, bS, jT8 (.inl k), jB3 B b hl hN jPp.1 jPp.2]
  exact ⟨_, rfl, jLa⟩
 ·rw [qY3 (.inr k), k]
  simp only [Int.reduceEq, decide_false, decide_true, cnF, cnT]
  rw [jBm B, bS, jT8 (.inr k), jB3 B b hl hN jPp.1 jPp.2]
  exact ⟨_, rfl, jLa⟩
 ·rw [ref4 k, k]
  simp only [Int.reduceEq, decide_false, decide_true, cnF, cnT]
  obtain ⟨e, he, h⟩ := jA4 (N := N) B b hl hN (n := p.Ref) (ks := [2, 3]) (f := fun o => decide (o = 2) || decide (o = 3)) (by decide) (fun x => by simp)
  rw [he, bS]
  by_cases hz : e = 0
  ·have ha := h.1 hz
   rw [ha, dT hz]
   have hr := jLg.1 ha
   simp only [Bool.not_true, cnF]
   rw [entry_eq B hl hr.1 hr.2.1, bS, jVf]
   cases (decide ((pAt m p.Ref).Op = 3) && decide ((pAt m p.Ref).Who = p.Who))
   ·exact ⟨0, rfl, by simp⟩
   ·exact ⟨26, rfl, by simp⟩
  ·rw [dF hz]
   refine ⟨e, rfl, ?_⟩
   have := mt h.2 hz
   simp [hz, this]
 ·rw [ref5 k, k]
  simp only [Int.reduceEq, decide_false, decide_true, cnF, cnT]
  obtain ⟨e, he, h⟩ := jA4 (N := N) B b hl hN (n := p.Ref) (ks := [1, 2, 3]) (f := fun o => decide (o = 1) || decide (o = 2) || decide (o = 3)) (by decide) (fun x => by simp [Bool.or_assoc])
  rw [he, bS]
  by_cases hz : e = 0
  ·have ha := h.1 hz
   rw [ha, dT hz]
   have hr := jLg.1 ha
   simp only [Bool.not_true, cnF]
   rw [entry_eq B hl hr.1 hr.2.1, bS, jQa]
   by_cases h2 : (pAt m p.Ref).Op = 2
   ·rw [dT h2]; exact ⟨0, rfl, by simp⟩
   ·rw [dF h2]
    by_cases ha : p.Amount < 0
    ·rw [dT ha]; exact ⟨2, rfl, by simp; omega⟩
    ·rw [dF ha]; exact ⟨0, rfl, by simp; omega⟩
  ·rw [dF hz]
   refine ⟨e, rfl, ?_⟩
   have := mt h.2 hz
   simp [hz, this]
 ·rw [qUj (.inl k), k]
  simp only [Int.reduceEq, decide_false, decide_true, cnF, cnT]
  rw [jBm B, bS, jPg (.inr (.inl k)), jB3 B b hl hN jFm.1 jFm.2]
  exact ⟨_, rfl, jLa⟩
 ·rw [qUj (.inr k), k]
  simp only [Int.reduceEq, decide_false, decide_true, cnF, cnT]
  rw [jBm B, bS, jPg (.inr (.inr k)), jB3 B b hl hN jFm.1 jFm.2]
  exact ⟨_, rfl, jLa⟩
 ·rw [ref8 k, k]
  simp only [Int.reduceEq, decide_false, decide_true, cnF, cnT]
  obtain ⟨e, he, h⟩ := jA4 (N := N) B b hl hN (n := p.Ref) (ks := [0, 1, 2, 3, 4, 5, 6, 7]) (f := fun o => decide (0 ≤ o) && decide (o ≤ 7)) (by decide) (fun x => by
   rw [← Bool.decide_and]
   refine decide_eq_decide.2 ?_
   simp
   omega)
  rw [he, bS]
  exact ⟨e, rfl, h⟩
end
end Go.KB
namespace Go.KB
set_option linter.unusedVariables false
theorem jDy {α : Type} {xs ys : List α} (h : xs.length + ys.length ≤ 1000000) : app xs ys = some (xs ++ ys) := by
 unfold app
 rw [show Nat.ble (xs.length + ys.length) lim = true by rw [Nat.ble_eq]; exact Nat.le_trans h (by decide), cnT]
def okA (m : List jJu) (p : jJu) : Prop := Okp Nm (cl p) ∧ m.length < 400 ∧ dayB m p = true ∧ jPv m p = true
theorem qGj {m : List jJu} {p : jJu} (h : 0 ≤ p.Op ∧ p.Op ≤ 8) : jPv m (cl p) = jPv m p := by
 rcases jF8 h with k | k | k | k | k | k | k | k | k
 ·rw [ref0 k, ref0 (p := cl p) k]; simp [cl, k]
 ·rw [ref1 k, ref1 (p := cl p) k]; simp [cl, k]
 ·rw [qY3 (.inl k), qY3 (p := cl p) (.inl k)]; simp [cl, k]
 ·rw [qY3 (.inr k), qY3 (p := cl p) (.inr k)]; simp [cl, k]
 ·rw [ref4 k, ref4 (p := cl p) k]; simp [cl, k]
 ·rw [ref5 k, ref5 (p := cl p) k]; simp [cl, k]
 ·rw [qUj (.inl k), qUj (p := cl p) (.inl k)]; simp [cl, k]
 ·rw [qUj (.inr k), qUj (p := cl p) (.inr k)]; simp [cl, k]
 ·rw [ref8 k, ref8 (p := cl p) k]; simp [cl, k]
theorem jS7 {nm : Str → Prop} {p : jJu} (h : Okp nm p) : cl p = p := by
 obtain ⟨o, d, a, b, c, e, f, g, i⟩ := p
 obtain ⟨h0, h1, h2, h3, h4, h5, h6, h7, h8⟩ := h
 dsimp only at *
 rcases jF8 h0 with rfl | rfl | rfl | rfl | rfl | rfl | rfl | rfl | rfl <;> simp at h2 h3 h4 h5 h6 h7 h8 <;> simp [cl, h2, h3, h4, h5, h6, h7, h8]
theorem Vl.add {m : List jJu} {p : jJu} (v : Vl Nm m) (h : okA m p) : Vl Nm (m ++ [cl p]) := v.snoc h.1 (by rw [qGj (show 0 ≤ p.Op ∧ p.Op ≤ 8 from h.1.op)]; exact h.2.2.2) h.2.2.1
theorem jAc {m : List jJu} {q : jJu} {x : Str} : jG6 (m ++ [q]) x = if jG6 m x = 0 then (if jTx x q = true then (m.length : Int) + 1 else 0) else jG6 m x := by
 unfold jG6
 rw [jB4 (by omega), jD5, show (1 : Int) + (m.length : Int) = (m.length : Int) + 1 by omega]; rfl
theorem qJk {m : List jJu} {q : jJu} {x y : Str} : jFk (m ++ [q]) x y = if jFk m x y = 0 then (if jSg x y q = true then (m.length : Int) + 1 else 0) else jFk m x y := by
 unfold jFk
 rw [jB4 (by omega), jD5, show (1 : Int) + (m.length : Int) = (m.length : Int) + 1 by omega]; rfl
theorem jS4 {m : List jJu} {q : jJu} {n : Int} : jRe (m ++ [q]) n = (jRe m n || (decide (q.Op = 8) && decide (q.Ref = n))) := by
 unfold jRe
 rw [List.any_append]; simp
theorem qWh {x : Str} {q : jJu} (h : q.Op ≠ 0) : jTx x q = false := by unfold jTx; rw [dF h]; rfl
theorem qW1 {x y : Str} {q : jJu} (h : q.Op ≠ 1) : jSg x y q = false := by unfold jSg; rw [dF h]; rfl
section
variable {N : Nat} {g0 : jJj} {o : List (Str × Int)} {it : List (jJz × Int)} {gn : List (Int × Bool)} {m : List jJu}
theorem jRt {q : jJu} (h : q.Op ≠ 0) (x : Str) : jG6 (m ++ [q]) x = jG6 m x := by
 rw [jAc, qWh h]
 split
 ·rename_i hz; rw [hz]; rfl
 ·rfl
theorem jSq {q : jJu} (h : q.Op ≠ 1) (x y : Str) : jFk (m ++ [q]) x y = jFk m x y := by
 rw [qJk, qW1 h]
 split
 ·rename_i hz; rw [hz]; rfl
 ·rfl
theorem jNw {q : jJu} (h : q.Op ≠ 8) (n : Int) : jRe (m ++ [q]) n = jRe m n := by
 rw [jS4, dF h]; simp
theorem bk0 (B : jGb g0 o it gn m) {q : jJu} (h : q.Op = 0) (hz : jG6 m q.Order = 0) : jGb ⟨m ++ [q]⟩ (jHg o q.Order ((m.length : Int) + 1)) it gn (m ++ [q]) :=
 ⟨rfl, fun x => by
  rw [jGa, B.ord, jAc]
  by_cases hx : x = q.Order
  ·rw [if_pos hx, hx, if_pos hz, if_pos (by unfold jTx; rw [dT h, dT rfl]; rfl)]
  ·rw [if_neg hx]
   split
   ·rename_i h0; rw [h0, if_neg (by unfold jTx; rw [dF (show ¬ q.Order = x from fun e => hx e.symm)]; simp)]
   ·rfl, fun w => by rw [B.itm, jSq (by omega)], fun n => by rw [B.gone, jNw (by omega)]⟩
theorem qK7 {w : jJz} {a b : Str} : w = ⟨a, b⟩ ↔ w.order = a ∧ w.item = b := by
 obtain ⟨x, y⟩ := w
 simp
theorem bk1 (B : jGb g0 o it gn m) {q : jJu} (h : q.Op = 1) (hz : jFk m q.Order q.Item = 0) : jGb ⟨m ++ [q]⟩ o (jHg it ⟨q.Order, q.Item⟩ ((m.length : Int) + 1)) gn (m ++ [q]) :=
 ⟨rfl, fun x => by rw [B.ord, jRt (by omega)], fun w => by
  rw [jGa, B.itm, qJk]
  by_cases hx : w = ⟨q.Order, q.Item⟩
  ·rw [if_pos hx, hx]
   dsimp only
   rw [if_pos hz, if_pos (by unfold jSg; rw [dT h, dT rfl, dT rfl]; rfl)]
  ·rw [if_neg hx]
   rw [qK7] at hx
   split
   ·rename_i h0
    rw [h0, if_neg (by
     unfold jSg
     intro hc
     simp only [Bool.and_eq_true, decide_eq_true_eq] at hc
     exact hx ⟨hc.1.2.symm, hc.2.symm⟩)]
   ·rfl, fun n => by rw [B.gone, jNw (by omega)]⟩
theorem bk8 (B : jGb g0 o it gn m) {q : jJu} (h : q.Op = 8) : jGb ⟨m ++ [q]⟩ o it (jHg gn q.Ref true) (m ++ [q]) :=
 ⟨rfl, fun x => by rw [B.ord, jRt (by omega)], fun w => by rw [B.itm, jSq (by omega)], fun n => by
  rw [jGa, B.gone, jS4, dT h]
  by_cases hn : n = q.Ref
  ·rw [if_pos hn, dT hn.symm]; simp
  ·rw [if_neg hn, dF (fun e => hn e.symm)]; simp⟩
theorem bkx (B : jGb g0 o it gn m) {q : jJu} (h0 : q.Op ≠ 0) (h1 : q.Op ≠ 1) (h8 : q.Op ≠ 8) : jGb ⟨m ++ [q]⟩ o it gn (m ++ [q]) :=
 ⟨rfl, fun x => by rw [B.ord, jRt h0], fun w => by rw [B.itm, jSq h1], fun n => by rw [B.gone, jNw h8]⟩
theorem post_eq (B : jGb g0 o it gn m) (v : Vl Nm m) (hl : m.length ≤ 400) (hN : 2000 ≤ N) (p : jJu) :
    ∃ g' o' it' gn' n e, jXa N g0 o it gn p = some (g', o', it', gn', n, e) ∧
      ((okA m p ∧ e = 0 ∧ n = (m.length : Int) + 1 ∧ jGb g' o' it' gn' (m ++ [cl p])) ∨ (¬ okA m p ∧ e ≠ 0 ∧ n = 0 ∧ jGb g' o' it' gn' m)) := by
  unfold jXa
  rw [jR8 (by omega), bS, jYl]
  by_cases hc : jF2 p = 0
  · have hok := jP5.1 hc
    have hop : 0 ≤ p.Op ∧ p.Op ≤ 8 := hok.op
    rw [dT hc, B.posts]
    simp only [Bool.not_true, cnF, jV1]
    by_cases h4 : m.length = 400
    · rw [dT (show (m.length : Int) = 400 by omega)]
      exact ⟨g0, o, it, gn, 0, 8, rfl, .inr ⟨fun h => by have := h.2.1; omega, by decide, rfl, B⟩⟩
    · rw [dF (show ¬ (m.length : Int) = 400 by omega), cnF]
      have hday : ((bif jJb .gtr (m.length : Int) 0 then idx m (IntKind.i64.wrap ((m.length : Int) - 1)) else some (⟨0, 0, [], [], [], [], 0, 0, 0⟩ : jJu)).bind fun v2 => (some (jJb .gtr (m.length : Int) 0 && jJb .lss p.Day v2.Day) : Option Bool)) = some (!dayB m p) ∧ ∃ y, (bif jJb .gtr (m.length : Int) 0 then idx m (IntKind.i64.wrap ((m.length : Int) - 1)) else some (⟨0, 0, [], [], [], [], 0, 0, 0⟩ : jJu)) = some y := by
        unfold dayB
        by_cases hm : m = []
        · subst hm; exact ⟨rfl, _, rfl⟩
        · have : 0 < m.length := List.length_pos_iff.2 hm
          rw [jY9, dT (show (0 : Int) < m.length by omega), cnT, jDb (by omega) (by omega), jL1 (by omega) (Int.le_refl _), dF hm]
          refine ⟨?_, _, rfl⟩
          rw [bS, jQa, Bool.true_and, Bool.false_or, ← decide_not]
          congr 1
          exact decide_eq_decide.2 (by omega)
      obtain ⟨hd, y, hy⟩ := hday
      rw [hy, bS] at hd
      rw [hy, bS, Option.some.inj hd]
      cases hdb : dayB m p with
      | false => exact ⟨g0, o, it, gn, 0, 10, rfl, .inr ⟨fun h => absurd (hdb.symm.trans h.2.2.1) (by decide), by decide, rfl, B⟩⟩
      | true =>
        simp only [Bool.not_true, cnF]
        obtain ⟨e, he, hr⟩ := qQy (N := N) B v.base (by omega) hN hop
        rw [he, bS, jYl]
        by_cases hz : e = 0
        · have hrb := hr.1 hz
          have hA : okA m p := ⟨hok, by omega, hdb, hrb⟩
          rw [dT hz]
          simp only [Bool.not_true, cnF]
          rw [qQc (by omega) hop, bS, jDy (by simp; omega), bS]
          have hlen : ((m ++ [cl p]).length : Int) = (m.length : Int) + 1 := by rw [List.length_append]; simp
          rw [hlen]
          by_cases k0 : p.Op = 0
          · rw [dT k0]
            have hz : jG6 m p.Order = 0 := by rw [ref0 k0] at hrb; simpa using hrb
            have ho : (cl p).Order = p.Order := by simp [cl, k0]
            refine ⟨_, _, _, _, _, _, rfl, .inl ⟨hA, rfl, rfl, ?_⟩⟩
            have := bk0 B (q := cl p) k0 (by rw [ho]; exact hz)
            rw [ho] at this; exact this
          · by_cases k1 : p.Op = 1
            · rw [dF k0, dT k1]
              have hz : jFk m p.Order p.Item = 0 := by rw [ref1 k1] at hrb; simp at hrb; exact hrb.2
              have ho : (cl p).Order = p.Order := by simp [cl, k1]
              have hi : (cl p).Item = p.Item := by simp [cl, k1]
              refine ⟨_, _, _, _, _, _, rfl, .inl ⟨hA, rfl, rfl, ?_⟩⟩
              have := bk1 B (q := cl p) k1 (by rw [ho, hi]; exact hz)
              rw [ho, hi] at this; exact this
            · by_cases k8 : p.Op = 8
              · rw [dF k0, dF k1, dT k8]
                have ho : (cl p).Ref = p.Ref := by simp [cl, k8]
                refine ⟨_, _, _, _, _, _, rfl, .inl ⟨hA, rfl, rfl, ?_⟩⟩
                have := bk8 B (q := cl p) k8
                rw [ho] at this; exact this
              · rw [dF k0, dF k1, dF k8]
                exact ⟨_, _, _, _, _, _, rfl, .inl ⟨hA, rfl, rfl, bkx B (q := cl p) k0 k1 k8⟩⟩
        · rw [dF hz]
          exact ⟨g0, o, it, gn, 0, e, rfl, .inr ⟨fun h => hz (hr.2 h.2.2.2), hz, rfl, B⟩⟩
  · rw [dF hc]
    exact ⟨g0, o, it, gn, 0, jF2 p, rfl, .inr ⟨fun h => hc (jP5.2 h.1), hc, rfl, B⟩⟩
end
theorem qYn : jGb (⟨[]⟩ : jJj) [] [] [] [] := ⟨rfl, fun _ => rfl, fun _ => rfl, fun _ => rfl⟩
theorem Vl.okA {m : List jJu} (v : Vl Nm m) (hl : m.length ≤ 400) {i : Nat} (hi : i < m.length) : okA (m.take i) m[i]! ∧ m.take (i + 1) = m.take i ++ [cl m[i]!] := by
 have e : m = m.take i ++ m[i] :: m.drop (i + 1) := by
  rw [← List.drop_eq_getElem_cons hi, List.take_append_drop]
 obtain ⟨h1, h2, h3⟩ := v _ _ _ e
 rw [jRg hi]
 have hc := jS7 h1
 refine ⟨⟨by rw [hc]; exact h1, by rw [List.length_take]; omega, h3, h2⟩, ?_⟩
 rw [hc, List.take_succ_eq_append_getElem hi]
end Go.KB
