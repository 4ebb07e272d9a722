/- Any text: words and numbers as the reference reads them. Any text: what the program's Parse and the reference's Parse find in it. The reference's Parse, of any text. The reference's Parse, of any text: its loop. No condition. -/
import Derived.Test.YtcoggcadlinmdaaGreatDoorPZ1
namespace Go.KB
set_option linter.unusedVariables false
set_option maxRecDepth 100000
theorem qKu {c : UInt8} : ∀ (s : Str), jH2 c (s ++ [c]) = jH2 c s ++ [[]] := by
 intro s
 induction s with
 | nil => simp [jH2]
 | cons b s ih =>
  rw [List.cons_append, jH2, jH2]
  by_cases h : b = c
  ·rw [if_pos h, if_pos h, ih]; rfl
  ·rw [if_neg h, if_neg h, ih]
   cases hs : jH2 c s with
   | nil => exact absurd hs (jT3 s)
   | cons x l => rfl
theorem qVs {c b : UInt8} (hb : b ≠ c) : ∀ (s : Str), ∃ (l : List Str) (x : Str), jH2 c s = l ++ [x] ∧ jH2 c (s ++ [b]) = l ++ [x ++ [b]] := by
 intro s
 induction s with
 | nil => exact ⟨[], [], rfl, by rw [List.nil_append, jH2, if_neg hb]; rfl⟩
 | cons a s ih =>
  obtain ⟨l, x, h1, h2⟩ := ih
  rw [List.cons_append, jH2, jH2]
  by_cases h : a = c
  ·rw [if_pos h, if_pos h, h1, h2]; exact ⟨[] :: l, x, rfl, rfl⟩
  ·rw [if_neg h, if_neg h, h1, h2]
   cases l with
   | nil => exact ⟨[], a :: x, rfl, rfl⟩
   | cons y l => exact ⟨(a :: y) :: l, x, rfl, rfl⟩
theorem qWj {b : UInt8} {n : Nat} (hn : n < 256) : (((UInt8.toNat b : Nat) : Int) = (n : Int)) ↔ b = UInt8.ofNat n := by
 constructor
 ·intro h
  have h : b.toNat = n := by omega
  rw [← h]; simp
 ·intro h
  rw [h, UInt8.toNat_ofNat']
  omega
theorem qXx {α : Type} {l : List α} {x : α} (hl : l.length < 1000000) : idx (l ++ [x]) (IntKind.i64.wrap ((List.length (l ++ [x]) : Int) - 1)) = some x := by
 have e : IntKind.i64.wrap ((List.length (l ++ [x]) : Int) - 1) = ((l.length : Nat) : Int) := by
  rw [jPe (by simp only [List.length_append, List.length_cons, List.length_nil]; omega) (by simp only [List.length_append, List.length_cons, List.length_nil]; omega)]; simp
 rw [e, jKu (by simp)]; simp
theorem qY6 {α : Type} {l : List α} {x y : α} (hl : l.length < 1000000) : List.set (l ++ [x]) (Int.toNat (IntKind.i64.wrap ((List.length (l ++ [x]) : Int) - 1))) y = l ++ [y] := by
 have e : IntKind.i64.wrap ((List.length (l ++ [x]) : Int) - 1) = ((l.length : Nat) : Int) := by
  rw [jPe (by simp only [List.length_append, List.length_cons, List.length_nil]; omega) (by simp only [List.length_append, List.length_cons, List.length_nil]; omega)]; simp
 rw [e, Int.toNat_natCast]; simp
theorem qG1 {s : Str} {i : Nat} (hi : i < s.length) (hl : s.length < 1000000) : slc s (i : Int) (IntKind.i64.wrap ((i : Int) + 1)) = some [s[i]] := by
 rw [jN4 (by omega), qUv (by omega) (by omega), List.take_succ_eq_append_getElem hi, List.drop_append_of_le_length (by rw [List.length_take]; omega), List.drop_of_length_le (by rw [List.length_take]; omega)]; rfl
def sepF (c : Nat) (x0 : Str) (s1 : ((List Str) × Int)) : Option (((List Str) × Int) ⊕ (List Str)) :=
 bif (jJq .lss s1.2 (List.length x0 : Int)) then ((idx x0 s1.2).bind fun v2 => bif (jJq .eql ((UInt8.toNat v2 : Nat) : Int) (c : Int)) then ((app s1.1 [([] : Str)]).bind fun v3 => some (.inl (v3, (IntKind.i64.wrap (s1.2 + 1))))) else ((idx s1.1 (IntKind.i64.wrap ((List.length s1.1 : Int) - 1))).bind fun v4 => (slc x0 s1.2 (IntKind.i64.wrap (s1.2 + 1))).bind fun v5 => (qKw v4 v5).bind fun v6 => (idx s1.1 (IntKind.i64.wrap ((List.length s1.1 : Int) - 1))).bind fun v7 => some (.inl ((List.set s1.1 (Int.toNat (IntKind.i64.wrap ((List.length s1.1 : Int) - 1))) v6), (IntKind.i64.wrap (s1.2 + 1)))))) else (some (.inr s1.1))
theorem qVp {N c : Nat} {x : Str} (hc : c < 256) (hx : x.length ≤ 60000) (hN : 2 ^ 64 ≤ N) : jQ2 (sepF c x) N ([([] : Str)], 0) = some (jH2 (UInt8.ofNat c) x) := by
  have := qG0 (f := sepF c x) (N := N) (n := x.length) (fin := jH2 (UInt8.ofNat c) x) (fun i => (jH2 (UInt8.ofNat c) (x.take i), (i : Int))) (fun i hi => by
    have hk := jD1 (c := UInt8.ofNat c) (x.take i)
    rw [List.length_take] at hk
    unfold sepF
    simp only [jXx, jW0]
    rw [dT (by omega), cnT, jKu hi, bS, List.take_succ_eq_append_getElem hi]
    by_cases hb : x[i] = UInt8.ofNat c
    · rw [dT ((qWj hc).2 hb), cnT, jDf (by simp; unfold lim; omega), bS, jN4 (by omega), hb, qKu]
    · rw [dF (fun h => hb ((qWj hc).1 h)), cnF]
      obtain ⟨l, y, h1, h2⟩ := qVs hb (x.take i)
      have hl : l.length < 1000000 := by have := hk.1; rw [h1] at this; simp at this; omega
      have hy : y.length ≤ 60000 := by have := hk.2 y (by rw [h1]; simp); omega
      rw [h1, h2, qXx hl, bS, qG1 hi (by omega), bS, qJc (by simp; omega), bS, bS, qY6 hl, jN4 (by omega)]) (by
    unfold sepF
    simp only [jXx]
    rw [dF (by omega), cnF, List.take_length]) (by omega)
  exact this
theorem qYq {N : Nat} {x : Str} (hx : x.length ≤ 60000) (hN : 2 ^ 64 ≤ N) : jUn N x = some (jH2 32 x) := by
 unfold jUn
 rw [show jK2 N x = sepF 32 x from rfl, qVp (by decide) hx hN]; rfl
theorem qWt {N : Nat} {x : Str} {l : List Str} {y : Str} (hx : x.length ≤ 60000) (hN : 2 ^ 64 ≤ N) (h : jH2 10 x = l ++ [y]) : jUt N x = some (l, decide (y = [])) := by
 have hk := (jD1 (c := 10) x).1
 have hl : l.length < 1000000 := by rw [h] at hk; simp at hk; omega
 have e : IntKind.i64.wrap ((List.length (l ++ [y]) : Int) - 1) = ((l.length : Nat) : Int) := by
  rw [jPe (by simp only [List.length_append, List.length_cons, List.length_nil]; omega) (by simp only [List.length_append, List.length_cons, List.length_nil]; omega)]; simp
 unfold jUt
 rw [show jK3 N x = sepF 10 x from rfl, qVp (by decide) hx hN, show UInt8.ofNat 10 = 10 from rfl, h, bS, qXx hl, e, show (0 : Int) = ((0 : Nat) : Int) from rfl, qUv (by omega) (by simp), bS, bS, List.take_left, List.drop_zero, jWc]
def jRy (a : Nat) (l : Str) : Nat := l.foldl (fun a c => 10 * a + (c.toNat - 48)) a
theorem jRb {a : Nat} : jRy a [] = a := rfl
theorem jLq {a : Nat} {c : UInt8} {r : Str} : jRy a (c :: r) = jRy (10 * a + (c.toNat - 48)) r := by unfold jRy; rw [List.foldl_cons]
theorem qQ5 : ∀ (l : Str) (a : Nat) (c : UInt8), jRy a (l ++ [c]) = 10 * jRy a l + (c.toNat - 48) := by
 intro l
 induction l with
 | nil => intro a c; rw [List.nil_append, jLq, jRb, jRb]
 | cons b l ih => intro a c; rw [List.cons_append, jLq, jLq, ih]
theorem qXq : ∀ (u : Nat), jRy 0 (Lib.decDigits u) = u := by
  intro u
  induction u using Nat.strongRecOn with
  | _ u ih =>
    by_cases h : u < 10
    · have e : Lib.decDigits u = [UInt8.ofNat (48 + u)] := by rw [Lib.decDigits, dif_pos h]
      have e2 : jRy 0 [UInt8.ofNat (48 + u)] = 10 * 0 + ((UInt8.ofNat (48 + u)).toNat - 48) := by rw [jLq, jRb]
      rw [e, e2, jSr h]; omega
    · have e : Lib.decDigits u = Lib.decDigits (u / 10) ++ [UInt8.ofNat (48 + u % 10)] := by rw [Lib.decDigits, dif_neg h]
      have h1 := ih (u / 10) (by omega)
      generalize Lib.decDigits (u / 10) = l at e h1
      rw [e, qQ5, h1, jSr (show u % 10 < 10 by omega)]; omega
def jS6 (c : UInt8) : Bool := decide (48 ≤ c.toNat) && decide (c.toNat ≤ 57)
theorem qW8 : ∀ (l : Str) (a : Nat), (∀ c ∈ l, jS6 c = true) → jRy a l < (a + 1) * 10 ^ l.length := by
 intro l
 induction l with
 | nil => intro a _; rw [jRb]; simp
 | cons c l ih =>
  intro a h
  have hc := h c List.mem_cons_self
  unfold jS6 at hc
  simp only [Bool.and_eq_true, decide_eq_true_eq] at hc
  have := ih (10 * a + (c.toNat - 48)) fun b hb => h b (List.mem_cons_of_mem _ hb)
  rw [jLq, List.length_cons, Nat.pow_succ]
  refine Nat.lt_of_lt_of_le this ?_
  rw [Nat.mul_comm (10 ^ l.length) 10, ← Nat.mul_assoc]
  exact Nat.mul_le_mul_right _ (by omega)
theorem qVx {N : Nat} {w : Str} {a0 : Nat} (hw : w.length ≤ a0 + 10) (ha : a0 ≤ 1) : ∀ (k i : Nat) (M : Nat), i + k = w.length → a0 ≤ i → k < M → (∀ c ∈ (w.take i).drop a0, jS6 c = true) →
    jQ2 (jZx N w) M (((jRy 0 ((w.take i).drop a0) : Nat) : Int), (i : Int)) = some (bif (w.drop i).all jS6 then Sum.inl (((jRy 0 (w.drop a0) : Nat) : Int)) else Sum.inr (0, false)) := by
  intro k
  induction k with
  | zero =>
    intro i M hi h0 hM hd
    obtain ⟨M, rfl⟩ : ∃ m, M = m + 1 := ⟨M - 1, by omega⟩
    have hiw : i = w.length := by omega
    have e : jZx N w (((jRy 0 ((w.take i).drop a0) : Nat) : Int), (i : Int)) = some (.inr (Sum.inl ((jRy 0 ((w.take i).drop a0) : Nat) : Int))) := by
      unfold jZx
      simp only [jXx]
      rw [dF (by omega), cnF]
    rw [jQ2, e, hiw, List.take_length, List.drop_length]; rfl
  | succ k ih =>
    intro i M hi h0 hM hd
    obtain ⟨M, rfl⟩ : ∃ m, M = m + 1 := ⟨M - 1, by omega⟩
    have hlt : i < w.length := by omega
    have hu := qW8 _ 0 hd
    have hlen : ((w.take i).drop a0).length ≤ 10 := by rw [List.length_drop, List.length_take]; omega
    have hp : 10 ^ ((w.take i).drop a0).length ≤ 10 ^ 10 := Nat.pow_le_pow_right (by decide) hlen
    have e10 : (10 : Nat) ^ 10 = 10000000000 := by decide
    rw [List.drop_eq_getElem_cons hlt, List.all_cons]
    cases hc : jS6 w[i] with
    | false =>
      have e : jZx N w (((jRy 0 ((w.take i).drop a0) : Nat) : Int), (i : Int)) = some (.inr (Sum.inr (0, false))) := by
        unfold jS6 at hc
        unfold jZx
        simp only [jXx, jKv]
        rw [dT (by omega), cnT, jKu hlt, bS]
        by_cases h1 : w[i].toNat < 48
        · rw [dT (show ((w[i].toNat : Nat) : Int) < 48 by omega)]; rfl
        · rw [dF (show ¬ ((w[i].toNat : Nat) : Int) < 48 by omega), Bool.not_false, cnT, bS]
          have h2 : 57 < w[i].toNat := by
            rw [dT (show 48 ≤ w[i].toNat by omega), Bool.true_and, decide_eq_false_iff_not] at hc
            omega
          rw [dT (show (57 : Int) < ((w[i].toNat : Nat) : Int) by omega)]; rfl
      rw [jQ2, e]; rfl
    | true =>
      have hc' := hc
      unfold jS6 at hc'
      simp only [Bool.and_eq_true, decide_eq_true_eq] at hc'
      have ht : (w.take (i + 1)).drop a0 = (w.take i).drop a0 ++ [w[i]] := by
        rw [List.take_succ_eq_append_getElem hlt, List.drop_append_of_le_length (by rw [List.length_take]; omega)]
      have e : jZx N w (((jRy 0 ((w.take i).drop a0) : Nat) : Int), (i : Int)) = some (.inl (((jRy 0 ((w.take (i + 1)).drop a0) : Nat) : Int), ((i + 1 : Nat) : Int))) := by
        unfold jZx
        simp only [jXx, jKv]
        rw [dT (by omega), cnT, jKu hlt, bS, dF (show ¬ ((w[i].toNat : Nat) : Int) < 48 by omega), Bool.not_false, cnT, bS, dF (show ¬ (57 : Int) < ((w[i].toNat : Nat) : Int) by omega), Bool.or_self, cnF, bS, jN4 (by omega), ht, qQ5]
        have e8 : IntKind.u8.wrap (((w[i].toNat : Nat) : Int) - 48) = ((w[i].toNat - 48 : Nat) : Int) := by rw [IntKind.wrap_u8]; omega
        rw [e8, jPe (n := ((w[i].toNat - 48 : Nat) : Int)) (by omega) (by omega), jPe (n := 10 * ((jRy 0 ((w.take i).drop a0) : Nat) : Int)) (by omega) (by omega), jPe (by omega) (by omega)]
        congr 3
      rw [jQ2, e]
      simp only []
      rw [ih (i + 1) M (by omega) (by omega) (by omega) (by
        rw [ht]
        intro c hcm
        rcases List.mem_append.1 hcm with h1 | h1
        · exact hd c h1
        · rw [List.mem_singleton] at h1; rw [h1]; exact hc)]
      rfl
theorem qV7 {u : Nat} : (Lib.decDigits u).all jS6 = true := by
 rw [List.all_eq_true]
 intro c hc
 have := jCp u c hc
 unfold jS6
 rw [dT this.1, dT this.2]; rfl
theorem jPm {N : Nat} {w : Str} {a0 : Nat} {sg : Int → Int} (ha : a0 ≤ 1) (hm : mag w = w.drop a0) (hsz : a0 ≤ w.length) (hsg : ∀ n, jMd w = some n → sg (n.natAbs : Int) = n) (hab : ∀ u : Nat, (sg u).natAbs = u) (hN : 2 ^ 64 ≤ N) (h1 : 1 ≤ w.length - a0) (h10 : w.length - a0 ≤ 10) (K : Int ⊕ (Int × Bool) → Option (Int × Bool))
  (hK1 : ∀ u : Nat, u < 10000000000 → K (.inl (u : Int)) = some (sg u, decide (Lib.itoa (sg u) = w))) (hK2 : K (.inr (0, false)) = some (0, false)) :
  ∃ v, ((jQ2 (jZx N w) N (0, (a0 : Int))).bind K) = some (v, (jMd w).isSome) ∧ ∀ n, jMd w = some n → v = n := by
 have hl := qVx (N := N) (w := w) (a0 := a0) (by omega) ha (w.length - a0) a0 N (by omega) (Nat.le_refl _) (by omega) (by
  intro c hc
  rw [List.drop_of_length_le (by rw [List.length_take]; omega)] at hc; cases hc)
 rw [List.drop_of_length_le (show (w.take a0).length ≤ a0 by rw [List.length_take]; omega)] at hl
 rw [show (0 : Int) = ((jRy 0 [] : Nat) : Int) from rfl, hl, bS]
 cases hd : (w.drop a0).all jS6 with
 | false =>
  rw [cnF]
  have hn : jMd w = none := by
   cases hp : jMd w with
   | none => rfl
   | some n =>
    have := jDn hp
    rw [← hm, ← this.1, jMj, qV7] at hd; cases hd
  exact ⟨0, by rw [hn]; exact hK2, fun n h => by rw [hn] at h; cases h⟩
 | true =>
  rw [cnT]
  have hlt := qW8 (w.drop a0) 0 (List.all_eq_true.1 hd)
  have hp : 10 ^ (w.drop a0).length ≤ 10 ^ 10 := Nat.pow_le_pow_right (by decide) (by rw [List.length_drop]; omega)
  have e10 : (10 : Nat) ^ 10 = 10000000000 := by decide
  have hu : jRy 0 (w.drop a0) < 10000000000 := by omega
  rw [hK1 _ hu]
  ·refine ⟨sg (jRy 0 (w.drop a0)), ?_, ?_⟩
   ·by_cases hi : Lib.itoa (sg (jRy 0 (w.drop a0))) = w
    ·have : jMd w = some (sg (jRy 0 (w.drop a0))) := by
      have := qVa (n := sg (jRy 0 (w.drop a0))) (by rw [hab]; exact hu)
      rwa [hi] at this
     rw [dT hi, this]; rfl
    ·have : jMd w = none := by
      cases hpn : jMd w with
      | none => rfl
      | some n =>
       exfalso
       have h2 := jDn hpn
       have h3 : jRy 0 (w.drop a0) = n.natAbs := by rw [← hm, ← h2.1, jMj, qXq]
       exact hi (by rw [h3, hsg n hpn]; exact h2.1)
     rw [dF hi, this]; rfl
   ·intro n hpn
    have h2 := jDn hpn
    have h3 : jRy 0 (w.drop a0) = n.natAbs := by rw [← hm, ← h2.1, jMj, qXq]
    rw [h3]; exact hsg n hpn
theorem jTl {w : Str} (h : (mag w).length < 1 ∨ 10 < (mag w).length) : jMd w = none := by
 cases hp : jMd w with
 | none => rfl
 | some n =>
  exfalso
  have h2 := jDn hp
  rw [← h2.1, jMj] at h
  have h3 := qV9 n.natAbs
  have h4 := jCk 9 n.natAbs h2.2
  omega
theorem jTm {N : Nat} {w : Str} (hw : w.length ≤ 100000) (hN : 2 ^ 64 ≤ N) : ∃ v, jYs N w = some (v, (jMd w).isSome) ∧ ∀ n, jMd w = some n → v = n := by
  unfold jYs
  cases w with
  | nil => exact ⟨0, rfl, fun n h => by cases h⟩
  | cons c r =>
    have hr : r.length ≤ 100000 := by simp only [List.length_cons] at hw; omega
    rw [jFv, dF (by simp), Bool.not_false, cnT, show idx (c :: r) 0 = some c from rfl, bS, Bool.true_and, jW0]
    by_cases h : c = 45
    · subst h
      have hm : mag (45 :: r) = r := rfl
      rw [dT (show (((45 : UInt8).toNat : Nat) : Int) = 45 from rfl), cnT, bS, jXx, jKv, jPe (by simp only [List.length_cons]; omega) (by simp only [List.length_cons]; omega)]
      by_cases h1 : r.length < 1 ∨ 10 < r.length
      · have hn := jTl (w := 45 :: r) (by rw [hm]; exact h1)
        have hb : (decide (((List.length (45 :: r) : Int) - 1) < 1) || decide (10 < ((List.length (45 :: r) : Int) - 1))) = true := by
          rcases h1 with h1 | h1
          · rw [dT (by simp only [List.length_cons]; omega)]; rfl
          · rw [dT (show (10 : Int) < ((List.length (45 :: r) : Int) - 1) by simp only [List.length_cons]; omega), Bool.or_true]
        rw [hb, cnT, hn]
        exact ⟨0, rfl, fun n h => by cases h⟩
      · rw [dF (show ¬ ((List.length (45 :: r) : Int) - 1) < 1 by simp only [List.length_cons]; omega), dF (show ¬ (10 : Int) < ((List.length (45 :: r) : Int) - 1) by simp only [List.length_cons]; omega), Bool.or_self, cnF]
        refine jPm (a0 := 1) (sg := fun u => 0 - u) (by omega) hm (by simp) ?_ (fun u => by simp) hN (by simp; omega) (by simp; omega) _ ?_ rfl
        · intro n hp
          have h2 := jDn hp
          have hneg : n < 0 := by
            refine Classical.byContradiction fun hc => ?_
            have e := h2.1
            rw [jRd (by omega)] at e
            have h3 := jCp n.toNat 45 (by rw [e]; exact List.mem_cons_self)
            exact absurd h3.1 (by decide)
          show 0 - (n.natAbs : Int) = n
          omega
        · intro u hu
          rw [Sum.elim_inl, show jJq .eql 1 1 = true from rfl, cnT, jPe (by omega) (by omega), jTe (by unfold big; omega) hN, bS, jWc]
    · have hm : mag (c :: r) = c :: r := by show (if c = 45 then r else c :: r) = _; rw [if_neg h]
      rw [dF (show ¬ ((c.toNat : Nat) : Int) = 45 from fun e => h ((qWj (n := 45) (by decide)).1 e)), cnF, bS, jXx, jKv, jPe (by simp only [List.length_cons]; omega) (by simp only [List.length_cons]; omega)]
      by_cases h1 : (c :: r).length < 1 ∨ 10 < (c :: r).length
      · have hn := jTl (w := c :: r) (by rw [hm]; exact h1)
        have hb : (decide (((List.length (c :: r) : Int) - 0) < 1) || decide (10 < ((List.length (c :: r) : Int) - 0))) = true := by
          rcases h1 with h1 | h1
          · rw [dT (by omega)]; rfl
          · rw [dT (show (10 : Int) < ((List.length (c :: r) : Int) - 0) by omega), Bool.or_true]
        rw [hb, cnT, hn]
        exact ⟨0, rfl, fun n h => by cases h⟩
      · rw [dF (show ¬ ((List.length (c :: r) : Int) - 0) < 1 by omega), dF (show ¬ (10 : Int) < ((List.length (c :: r) : Int) - 0) by omega), Bool.or_self, cnF]
        refine jPm (a0 := 0) (sg := fun u => u) (by omega) hm (by simp) ?_ (fun u => by simp) hN (by simp) (by simp at h1 ⊢; omega) _ ?_ rfl
        · intro n hp
          have h2 := jDn hp
          have hpos : 0 ≤ n := by
            refine Classical.byContradiction fun hc => ?_
            have e := h2.1
            rw [jNk (by omega)] at e
            exact h (by have := List.cons.inj e; exact this.1.symm)
          show (n.natAbs : Int) = n
          omega
        · intro u hu
          rw [Sum.elim_inl, show jJq .eql 0 1 = false from rfl, cnF, jTe (by unfold big; omega) hN, bS, jWc]
theorem jSn {N : Nat} {l : List Str} (hl : l.length ≤ 100000) (hw : ∀ w ∈ l, w.length ≤ 100000) (hN : 2 ^ 64 ≤ N) : jV8 N l = some (match jF9 l with | some r => (r, true) | none => ([], false)) := by
 have key : ∀ (k i : Nat) (acc : List Int) (M : Nat), i + k = l.length → k < M → acc.length + k ≤ 1000000 →
   jQ2 (jX2 N l) M (acc, (i : Int)) = some (match jF9 (l.drop i) with | none => Sum.inr ([], false) | some r => Sum.inl (acc ++ r)) := by
  intro k
  induction k with
  | zero =>
   intro i acc M hi hM _
   obtain ⟨M, rfl⟩ : ∃ m, M = m + 1 := ⟨M - 1, by omega⟩
   have e : jX2 N l (acc, (i : Int)) = some (.inr (Sum.inl acc)) := by
    unfold jX2
    simp only [jXx]
    rw [dF (by omega), cnF]
   rw [jQ2, e, List.drop_of_length_le (by omega)]
   simp [jF9]
  | succ k ih =>
   intro i acc M hi hM ha
   obtain ⟨M, rfl⟩ : ∃ m, M = m + 1 := ⟨M - 1, by omega⟩
   have hlt : i < l.length := by omega
   obtain ⟨v, hv, hn⟩ := jTm (N := N) (hw _ (List.getElem_mem hlt)) hN
   rw [List.drop_eq_getElem_cons hlt]
   cases hp : jMd l[i] with
   | none =>
    rw [hp] at hv
    have e : jX2 N l (acc, (i : Int)) = some (.inr (Sum.inr ([], false))) := by
     unfold jX2
     simp only [jXx]
     rw [dT (by omega), cnT, jKu hlt, bS, hv, bS]; rfl
    rw [jQ2, e, jNx hp]
   | some n =>
    rw [hp] at hv
    obtain rfl := hn n hp
    have e : jX2 N l (acc, (i : Int)) = some (.inl (acc ++ [v], ((i + 1 : Nat) : Int))) := by
     unfold jX2
     simp only [jXx]
     rw [dT (by omega), cnT, jKu hlt, bS, hv, bS]
     simp only [Option.isSome_some, Bool.not_true, cnF]
     rw [jDf (by simp; unfold lim; omega), bS, jN4 (by omega)]
    rw [jQ2, e]
    simp only []
    rw [ih (i + 1) _ M (by omega) (by omega) (by simp; omega), jL3 hp]
    cases jF9 (l.drop (i + 1)) with
    | none => rfl
    | some r => simp
 have := key l.length 0 [] N (by omega) (by omega) (by simp; omega)
 rw [List.drop_zero] at this
 unfold jV8
 rw [show jQ2 (jX2 N l) N ([], 0) = _ from this, bS]
 cases jF9 l with
 | none => rfl
 | some r => rfl
theorem qWp {N : Nat} {l : List Int} (hl : l.length ≤ 100000) : ∀ (k i : Nat) (X W : Int) (L Hh : List Int) (M : Nat), 2 * i + k = l.length → k < M → L.length + k ≤ 1000000 → Hh.length + k ≤ 1000000 →
    jQ2 (jXd N l) M ((⟨X, W, L, Hh⟩ : jJv), ((2 * i : Nat) : Int)) = some ⟨X, W, L ++ (dei (l.drop (2 * i))).1, Hh ++ (dei (l.drop (2 * i))).2⟩ := by
  intro k
  induction k using Nat.strongRecOn with
  | _ k ih =>
    intro i X W L Hh M hi hM hL hH
    obtain ⟨M, rfl⟩ : ∃ m, M = m + 1 := ⟨M - 1, by omega⟩
    have r0 : jS9 ((2 * i : Nat) : Int) 2 = some 0 := (qGc (a := 2 * i) (b := 2) (by decide)).trans (congrArg some (by omega))
    have r1 : jS9 ((2 * i + 1 : Nat) : Int) 2 = some 1 := (qGc (a := 2 * i + 1) (b := 2) (by decide)).trans (congrArg some (by omega))
    by_cases h0 : k = 0
    · have e : jXd N l ((⟨X, W, L, Hh⟩ : jJv), ((2 * i : Nat) : Int)) = some (.inr ⟨X, W, L, Hh⟩) := by
        unfold jXd
        simp only [jXx]
        rw [dF (by omega), cnF]
      rw [jQ2, e, List.drop_of_length_le (by omega)]
      simp [dei]
    · have hlt : 2 * i < l.length := by omega
      have e : jXd N l ((⟨X, W, L, Hh⟩ : jJv), ((2 * i : Nat) : Int)) = some (.inl (⟨X, W, L ++ [l[2 * i]], Hh⟩, ((2 * i + 1 : Nat) : Int))) := by
        unfold jXd
        simp only [jXx, jW0]
        rw [dT (by omega), cnT, r0, bS, dT rfl, cnT, jKu hlt, bS, jDf (by simp; unfold lim; omega), bS, jN4 (by omega)]
      rw [jQ2, e]
      simp only []
      by_cases h1 : k = 1
      · obtain ⟨M, rfl⟩ : ∃ m, M = m + 1 := ⟨M - 1, by omega⟩
        have e2 : jXd N l ((⟨X, W, L ++ [l[2 * i]], Hh⟩ : jJv), ((2 * i + 1 : Nat) : Int)) = some (.inr ⟨X, W, L ++ [l[2 * i]], Hh⟩) := by
          unfold jXd
          simp only [jXx]
          rw [dF (by omega), cnF]
        rw [jQ2, e2, List.drop_eq_getElem_cons hlt, List.drop_of_length_le (show l.length ≤ 2 * i + 1 by omega)]
        simp [dei]
      · obtain ⟨M, rfl⟩ : ∃ m, M = m + 1 := ⟨M - 1, by omega⟩
        have hlt2 : 2 * i + 1 < l.length := by omega
        have e2 : jXd N l ((⟨X, W, L ++ [l[2 * i]], Hh⟩ : jJv), ((2 * i + 1 : Nat) : Int)) = some (.inl (⟨X, W, L ++ [l[2 * i]], Hh ++ [l[2 * i + 1]]⟩, ((2 * (i + 1) : Nat) : Int))) := by
          unfold jXd
          simp only [jXx, jW0]
          rw [dT (by omega), cnT, r1, bS, dF (by decide), cnF, jKu hlt2, bS, jDf (by simp; unfold lim; omega), bS, jN4 (by omega)]
          rfl
        rw [jQ2, e2]
        simp only []
        rw [ih (k - 2) (by omega) (i + 1) X W _ _ M (by omega) (by omega) (by simp; omega) (by simp; omega), List.drop_eq_getElem_cons hlt, List.drop_eq_getElem_cons hlt2, dei, show 2 * i + 1 + 1 = 2 * (i + 1) by omega]
        simp
theorem qJt {N : Nat} {l : List Int} {t : jJv} (hl : l.length ≤ 100000) (h : qK1 l = some t) (hN : 2 ^ 64 ≤ N) : jY3 N l = some t := by
 match l, h, hl with
 | a :: b :: c :: r, h, hl =>
  have h : (if (a :: b :: c :: r).length % 2 = 1 then some (⟨a, b, (dei (c :: r)).1, (dei (c :: r)).2⟩ : jJv) else none) = some t := h
  by_cases h2 : (a :: b :: c :: r).length % 2 = 1
  ·rw [if_pos h2] at h
   cases h
   unfold jY3
   have hd := qWp (N := N) (l := a :: b :: c :: r) hl (c :: r).length 1 a b [] [] N (by simp; omega) (by simp at hl ⊢; omega) (by simp at hl ⊢; omega) (by simp at hl ⊢; omega)
   rw [show idx (a :: b :: c :: r) 0 = some a from rfl, bS, show idx (a :: b :: c :: r) 1 = some b from rfl, bS, show jQ2 (jXd N (a :: b :: c :: r)) N ((⟨a, b, [], []⟩ : jJv), 2) = _ from hd]
   rfl
  ·rw [if_neg h2] at h; cases h
end Go.KB
namespace Go.KB
set_option linter.unusedVariables false
set_option maxRecDepth 100000
theorem qY2 : ∀ (x : Str), ∃ (l : List Str) (y : Str), jH2 10 x = l ++ [y] ∧ x = unl l ++ y ∧ (∀ z ∈ l, ∀ b ∈ z, b ≠ (10 : UInt8)) ∧ ∀ b ∈ y, b ≠ (10 : UInt8) := by
  intro x
  induction x with
  | nil => exact ⟨[], [], rfl, rfl, (fun z hz => by cases hz), (fun b hb => by cases hb)⟩
  | cons b r ih =>
    obtain ⟨l, y, h1, h2, h3, h4⟩ := ih
    by_cases hb : b = 10
    · refine ⟨[] :: l, y, by rw [jH2, if_pos hb, h1]; rfl, by rw [jH4, hb, h2]; rfl, fun z hz => ?_, h4⟩
      rcases List.mem_cons.1 hz with rfl | hz
      · exact fun c hc => by cases hc
      · exact h3 z hz
    · cases l with
      | nil =>
        refine ⟨[], b :: y, by rw [jH2, if_neg hb, h1]; rfl, by rw [h2]; rfl, (fun z hz => by cases hz), fun c hc => ?_⟩
        rcases List.mem_cons.1 hc with rfl | hc
        · exact hb
        · exact h4 c hc
      | cons z l =>
        refine ⟨(b :: z) :: l, y, by rw [jH2, if_neg hb, h1]; rfl, by rw [h2, jH4, jH4]; rfl, fun v hv => ?_, h4⟩
        rcases List.mem_cons.1 hv with rfl | hv
        · intro c hc
          rcases List.mem_cons.1 hc with rfl | hc
          · exact hb
          · exact h3 z List.mem_cons_self c hc
        · exact h3 v (List.mem_cons_of_mem _ hv)
def qJp : jJp → Int → List Str → Nat → (jJp × Int) ⊕ Nat
 | g, st, [], _ => .inl (g, st)
 | g, st, x :: l, n => match jTk g x st with | some (g', st') => qJp g' st' l (n + 1) | none => .inr (n + 1)
structure GOk (g : jJp) (n : Nat) : Prop where
 st : g.Stations.length ≤ n
 it : g.Items.length ≤ n
 lv : ∀ t ∈ g.Stations, t.Levels.length ≤ 100000 ∧ t.Halves.length ≤ 100000
theorem qGa : ∀ (k : Nat) (l : List Int), l.length ≤ k → (dei l).1.length ≤ l.length ∧ (dei l).2.length ≤ l.length := by
 intro k
 induction k using Nat.strongRecOn with
 | _ k ih =>
  intro l hl
  match l, hl with
  | [], _ => exact ⟨by simp [dei], by simp [dei]⟩
  | [a], _ => exact ⟨by simp [dei], by simp [dei]⟩
  | a :: b :: r, hl =>
   have := ih (k - 2) (by simp at hl; omega) r (by simp at hl; omega)
   simp only [dei, List.length_cons]
   omega
theorem qKy {x : Str} {t : jJv} (hx : x.length ≤ 60000) (h : qY0 x = some t) : t.Levels.length ≤ 100000 ∧ t.Halves.length ≤ 100000 := by
 unfold qY0 at h
 cases hr : jNw x false with
 | none => rw [hr] at h; cases h
 | some l =>
  rw [hr] at h
  have hn := jTu hr
  simp only [] at h
  split at h
  ·unfold qK1 at h
   split at h
   ·rename_i a b c r heq
    split at h
    ·cases h
     rw [heq] at hn
     have := qGa _ (c :: r) (Nat.le_refl _)
     simp only [List.length_cons] at hn this ⊢
     omega
    ·cases h
   ·cases h
  ·cases h
theorem jCf {g g' : jJp} {x : Str} {st st' : Int} {n : Nat} (hx : x.length ≤ 60000) (hg : GOk g n) (h : jTk g x st = some (g', st')) : GOk g' (n + 1) ∧ (st' = 1 ∨ st' = 2) := by
 have h1 := hg.st
 have h2 := hg.it
 unfold jTk at h
 split at h
 ·split at h
  ·split at h
   ·split at h
    ·cases h; exact ⟨⟨by show g.Stations.length ≤ _; omega, by show g.Items.length ≤ _; omega, hg.lv⟩, .inl rfl⟩
    ·cases h
   ·cases h
  ·cases h
 ·split at h
  ·split at h
   ·cases h; exact ⟨⟨by show g.Stations.length ≤ _; omega, by show g.Items.length ≤ _; omega, hg.lv⟩, .inr rfl⟩
   ·cases ht : qY0 x with
    | none => rw [ht] at h; cases h
    | some t =>
     rw [ht] at h; cases h
     refine ⟨⟨by simp; omega, by show g.Items.length ≤ _; omega, fun u hu => ?_⟩, .inl rfl⟩
     rcases List.mem_append.1 hu with hu | hu
     ·exact hg.lv u hu
     ·rw [List.mem_singleton] at hu; rw [hu]; exact qKy hx ht
  ·cases ht : jCd x jC2 with
   | none => rw [ht] at h; cases h
   | some t =>
    rw [ht] at h; cases h
    exact ⟨⟨by show g.Stations.length ≤ _; omega, by simp; omega, hg.lv⟩, .inr rfl⟩
theorem qV2 : ∀ {l : List Str} {g : jJp} {st : Int} {n : Nat} {r : jJp × Int}, (∀ x ∈ l, x.length ≤ 60000) → GOk g n → qJp g st l n = .inl r → GOk r.1 (n + l.length) := by
 intro l
 induction l with
 | nil => intro g st n r _ hg h; rw [qJp] at h; cases h; exact hg
 | cons x l ih =>
  intro g st n r hx hg h
  rw [qJp] at h
  cases ha : jTk g x st with
  | none => rw [ha] at h; cases h
  | some p =>
   obtain ⟨g', st'⟩ := p
   rw [ha] at h
   have := ih (fun y hy => hx y (List.mem_cons_of_mem _ hy)) (jCf (hx x List.mem_cons_self) hg ha).1 h
   rw [List.length_cons, show n + (l.length + 1) = n + 1 + l.length by omega]
   exact this
theorem roundE {N : Nat} {g : jJp} {x : Str} {st : Int} {n : Nat} (hx : x.length ≤ 60000) (h1 : g.Stations.length ≤ 1000000) (h2 : g.Items.length ≤ 1000000) (hn : n ≤ 1000000) (hN : 2 ^ 64 ≤ N) :
  (∀ g' st', jTk g x st = some (g', st') → yl (jQn N) 2 ((g, st, (n : Int)), none) (x ++ [10]) = some (((g', st', ((n + 1 : Nat) : Int)), none), true)) ∧
  (jTk g x st = none → ∃ s', yl (jQn N) 2 ((g, st, (n : Int)), none) (x ++ [10]) = some ((s', some 1), false) ∧ s'.2.2 = ((n + 1 : Nat) : Int)) := by
 obtain ⟨a1, a2⟩ := add_eq (N := N) (g := g) (x := x) (st := st) hx h1 h2 hN
 constructor
 ·intro g' st' ha
  have e : jQn N (g, st, (n : Int)) (x ++ [10]) = some ((g', st', ((n + 1 : Nat) : Int)), none) := by
   unfold jQn
   rw [jWc, dF (by simp), cnF, qWf (by omega), bS]
   simp only []
   rw [a1 _ ha, bS, jN4 (by omega)]
   rfl
  unfold yl
  simp only []
  rw [e]
 ·intro ha
  obtain ⟨g', k, hk⟩ := a2 ha
  have e : jQn N (g, st, (n : Int)) (x ++ [10]) = some ((g', st, ((n + 1 : Nat) : Int)), some 1) := by
   unfold jQn
   rw [jWc, dF (by simp), cnF, qWf (by omega), bS]
   simp only []
   rw [hk, bS, jN4 (by omega)]
   rfl
  refine ⟨(g', st, ((n + 1 : Nat) : Int)), ?_, rfl⟩
  unfold yl
  simp only []
  rw [e]
  rfl
theorem cut_no {N : Nat} {y : Str} (hy : y.length ≤ 1000000) (hn : ∀ b ∈ y, b ≠ (10 : UInt8)) : jVx N y ([10] : Str) = some (y, false) := by
 unfold jVx jVm jVe
 rw [jMp, show List.length ([10] : Str) = 1 from rfl]
 by_cases h0 : y = []
 ·subst h0; rfl
 ·have hl : 1 ≤ y.length := by
   cases y with
   | nil => exact absurd rfl h0
   | cons a r => simp
  have ew : IntKind.i64.wrap (((y.length : Nat) : Int) - ((1 : Nat) : Int)) = ((y.length - 1 : Nat) : Int) := by
   rw [jPe (by omega) (by omega)]; omega
  rw [dT (by omega), cnT, ew, qUv (by omega) (Nat.le_refl _), bS, bS, Bool.true_and, jWc, dF]
  ·rfl
  ·intro h
   rw [List.take_length] at h
   have : (10 : UInt8) ∈ y := List.mem_of_mem_drop (i := y.length - 1) (by rw [h]; simp)
   exact hn 10 this rfl
theorem runE {N : Nat} (hN : 2 ^ 64 ≤ N) : ∀ {l : List Str} {y : Str} {g : jJp} {st : Int} {n : Nat} (M : Nat), (∀ x ∈ l, ∀ b ∈ x, b ≠ (10 : UInt8)) → (∀ b ∈ y, b ≠ (10 : UInt8)) → (unl l ++ y).length ≤ 60000 → GOk g n → n + l.length ≤ 100000 → l.length < M →
    ∃ o, jQ2 (jQp N (yl (jQn N) 2) ([10] : Str) (([10] : Str).length : Int)) M (((g, st, (n : Int)), none), unl l ++ y) = some o ∧
      (match qJp g st l n with
       | .inl (g', st') => o = .inl (((g', st', ((n + l.length : Nat) : Int)), none), y)
       | .inr k => ∃ s' rest, o = .inr ((s', some 1), rest) ∧ s'.2.2 = (k : Int)) := by
  intro l
  induction l with
  | nil =>
    intro y g st n M _ hy hl hg _ hM
    obtain ⟨M, rfl⟩ : ∃ m, M = m + 1 := ⟨M - 1, by omega⟩
    have ei : jYz N y [10] = some (-1) := by
      unfold jYz jAx
      rw [show Nat.blt y.length 4294967281 = true by rw [Nat.blt_eq]; simp [unl] at hl; omega, cnT, qKs y hy]
    have e : jQp N (yl (jQn N) 2) ([10] : Str) (([10] : Str).length : Int) (((g, st, (n : Int)), none), unl [] ++ y) = some (.inr (Sum.inl (((g, st, (n : Int)), none), y))) := by
      unfold jQp
      simp only []
      rw [show unl [] ++ y = y from rfl, ei, bS, jXx, dT (by decide), cnT]
    exact ⟨.inl (((g, st, (n : Int)), none), y), by rw [jQ2, e], rfl⟩
  | cons x l ih =>
    intro y g st n M hn hy hl hg hb hM
    obtain ⟨M, rfl⟩ : ∃ m, M = m + 1 := ⟨M - 1, by omega⟩
    have hx : x.length ≤ 60000 := by rw [jH4] at hl; simp at hl; omega
    have hl2 : (unl l ++ y).length ≤ 60000 := by rw [jH4] at hl; simp at hl ⊢; omega
    have h1 := hg.st
    have h2 := hg.it
    simp only [List.length_cons] at hb hM
    have ec : unl (x :: l) ++ y = (x ++ [10]) ++ (unl l ++ y) := by rw [jH4]; simp
    have ei : jYz N (unl (x :: l) ++ y) [10] = some (x.length : Int) := by
      unfold jYz jAx
      rw [show Nat.blt (unl (x :: l) ++ y).length 4294967281 = true by rw [Nat.blt_eq]; omega, cnT, show unl (x :: l) ++ y = x ++ 10 :: (unl l ++ y) by rw [ec]; simp, qV3 x (hn x List.mem_cons_self)]
    have ew : IntKind.i64.wrap ((x.length : Int) + (([10] : Str).length : Int)) = (((x ++ [10]).length : Nat) : Int) := by
      rw [jPe (by simp; omega) (by simp; omega)]; simp
    obtain ⟨r1, r2⟩ := roundE (N := N) (g := g) (x := x) (st := st) (n := n) hx (by omega) (by omega) (by omega) hN
    rw [qJp]
    cases ha : jTk g x st with
    | some p =>
      obtain ⟨g', st'⟩ := p
      have e : jQp N (yl (jQn N) 2) ([10] : Str) (([10] : Str).length : Int) (((g, st, (n : Int)), none), unl (x :: l) ++ y) = some (.inl (((g', st', ((n + 1 : Nat) : Int)), none), unl l ++ y)) := by
        unfold jQp
        simp only []
        rw [ei, bS, jXx, dF (by omega), cnF, ew, ec, show (0 : Int) = ((0 : Nat) : Int) from rfl, qUv (by omega) (by simp), bS, List.take_left, List.drop_zero, r1 _ _ ha, bS]
        simp only [Bool.not_true, cnF]
        rw [qUh, bS]
      obtain ⟨o, ho, hp⟩ := ih (y := y) (g := g') (st := st') (n := n + 1) M (fun z hz => hn z (List.mem_cons_of_mem _ hz)) hy hl2 (jCf hx hg ha).1 (by omega) (by omega)
      refine ⟨o, by rw [jQ2, e]; exact ho, ?_⟩
      simp only []
      rw [List.length_cons, show n + (l.length + 1) = n + 1 + l.length by omega]
      exact hp
    | none =>
      obtain ⟨s', hs, hs2⟩ := r2 ha
      have e : jQp N (yl (jQn N) 2) ([10] : Str) (([10] : Str).length : Int) (((g, st, (n : Int)), none), unl (x :: l) ++ y) = some (.inr (Sum.inr ((s', some 1), unl (x :: l) ++ y))) := by
        unfold jQp
        simp only []
        rw [ei, bS, jXx, dF (by omega), cnF, ew, ec, show (0 : Int) = ((0 : Nat) : Int) from rfl, qUv (by omega) (by simp), bS, List.take_left, List.drop_zero, hs, bS]
        rfl
      exact ⟨_, by rw [jQ2, e], s', _, rfl, hs2⟩
def jPp (l : List Str) (y : Str) : jJp ⊕ Nat := match qJp jKz 0 l 0 with
 | .inr k => .inr k
 | .inl (g, st) => if y = [] ∧ st = 2 then .inl g else .inr (l.length + 1)
theorem jSd : GOk jKz 0 := ⟨Nat.le_refl _, Nat.le_refl _, fun t ht => by cases ht⟩
theorem jAh {l : List Str} : l.length ≤ (unl l).length := by
 induction l with
 | nil => simp
 | cons x l ih => rw [jH4]; simp; omega
theorem qX0 {N : Nat} {x : Str} {l : List Str} {y : Str} (hx : x.length ≤ 60000) (h2 : x = unl l ++ y) (h3 : ∀ z ∈ l, ∀ b ∈ z, b ≠ (10 : UInt8)) (h4 : ∀ b ∈ y, b ≠ (10 : UInt8)) (hN : 2 ^ 64 ≤ N) :
    jKt N x = some (match jPp l y with | .inl g => .inl g | .inr k => .inr (k : Int)) := by
  have hl := jAh (l := l)
  have hxl : (unl l ++ y).length ≤ 60000 := by rw [← h2]; exact hx
  have hyl : y.length ≤ 60000 := by simp at hxl; omega
  have hll : l.length ≤ 60000 := by simp at hxl; omega
  obtain ⟨o, ho, hp⟩ := runE hN (l := l) (y := y) (g := jKz) (st := 0) (n := 0) N h3 h4 hxl jSd (by omega) (by omega)
  unfold jKt jV6
  rw [jW0, dF (show ¬ ((([10] : Str).length : Nat) : Int) = 0 by decide), cnF, h2]
  rw [show jQ2 (jQp N (yl (jQn N) 2) ([10] : Str) (([10] : Str).length : Int)) N ((((⟨[], 0, [], (⟨[], 0, 0, 0, 0⟩ : jJ0), []⟩ : jJp), 0, 0), none), unl l ++ y) = _ from ho, bS]
  unfold jPp
  cases hr : qJp jKz 0 l 0 with
  | inr k =>
    rw [hr] at hp
    obtain ⟨s', rest, rfl, hk⟩ := hp
    rw [Sum.elim_inr, bS]
    show some (Sum.inr s'.2.2) = some (Sum.inr (k : Int))
    rw [hk]
  | inl p =>
    obtain ⟨g, st⟩ := p
    rw [hr] at hp
    have hp : o = .inl (((g, st, ((0 + l.length : Nat) : Int)), none), y) := hp
    subst hp
    have hg := qV2 (n := 0) (fun z hz => by
      have : z.length ≤ (unl l).length := by
        clear hp ho hr h3 h2 hxl hll hl
        induction l with
        | nil => cases hz
        | cons a l ih =>
          rw [jH4]
          rcases List.mem_cons.1 hz with rfl | hz
          · simp only [List.length_append, List.length_cons]; omega
          · have := ih hz; simp only [List.length_append, List.length_cons]; omega
      simp only [List.length_append] at hxl; omega) jSd hr
    have hg1 := hg.st
    have hg2 := hg.it
    simp only [] at hg1 hg2
    rw [Nat.zero_add, Sum.elim_inl]
    simp only []
    by_cases hy : y = []
    · subst hy
      have ey : yl (jQn N) 2 ((g, st, (l.length : Int)), none) [] = some (((g, st, (l.length : Int)), some 0), false) := rfl
      rw [ey, bS, bS]
      show jWw N (g, st, (l.length : Int)) = _
      unfold jWw
      rw [jW0, jN4 (by omega)]
      by_cases h : st = 2
      · rw [dT h, cnT, if_pos ⟨rfl, h⟩]
      · rw [dF h, cnF, if_neg (fun hh => h hh.2)]
    · obtain ⟨a1, a2⟩ := add_eq (N := N) (g := g) (x := y) (st := st) hyl (by omega) (by omega) hN
      have hex : ∃ g' k b, jKj N g y st = some (g', k, b) := by
        cases ha : jTk g y st with
        | none => obtain ⟨g', k, hk⟩ := a2 ha; exact ⟨g', k, false, hk⟩
        | some p => exact ⟨_, _, _, a1 _ ha⟩
      obtain ⟨g', k, b, hk⟩ := hex
      have ey : yl (jQn N) 2 ((g, st, (l.length : Int)), none) y = some (((g', st, ((l.length + 1 : Nat) : Int)), some 1), false) := by
        have e : jQn N (g, st, (l.length : Int)) y = some ((g', st, ((l.length + 1 : Nat) : Int)), some 1) := by
          unfold jQn
          rw [jWc, dF hy, cnF, cut_no (by omega) h4, bS]
          simp only []
          rw [hk, bS, jN4 (by omega)]
          simp only []
          rw [Bool.and_false, cnF]
        unfold yl
        simp only []
        rw [e]
        rfl
      rw [ey, bS, bS, if_neg (fun hh => hy hh.1)]
      rfl
theorem qXe {N : Nat} {x : Str} {l : List Str} {y : Str} (hx : x.length ≤ 60000) (h2 : x = unl l ++ y) (h3 : ∀ z ∈ l, ∀ b ∈ z, b ≠ (10 : UInt8)) (h4 : ∀ b ∈ y, b ≠ (10 : UInt8)) (hN : 2 ^ 64 ≤ N) :
  jY4 N x = match jPp l y with | .inr k => some (jKz, (k : Int), 7) | .inl s => (jY8 N s).bind fun v5 => bif (jJq .neq v5 0) then (some (jKz, 0, v5)) else (some (s, 0, 0)) := by
 unfold jY4
 rw [jKv, dF (by omega), cnF, qX0 hx h2 h3 h4 hN, bS]
 cases jPp l y <;> rfl
def jNg (r : List Str) : Option jJ0 := match r with
 | [nm, a, b, c, d] => if nm = [] then none else (match jF9 [a, b, c, d] with | some [p, q, s, t] => some ⟨nm, p, q, s, t⟩ | _ => none)
 | _ => none
theorem qZ6 {x w w0 : Str} {r : List Str} (h : jH2 32 x = w0 :: r) : jCd x w = if w0 = w then jNg r else none := by
 unfold jCd jNw
 rw [h]
 simp only [cnT]
 match r with
 | [] => by_cases hw : w0 = w <;> simp [hw, jNg]
 | nm :: q =>
  by_cases hn : nm = []
  ·by_cases hw : w0 = w
   ·simp only [hn, if_true, hw]
    unfold jNg
    split
    ·rename_i heq; simp at heq; simp [heq.1]
    ·rfl
   ·simp [hn, hw]
  ·simp only [hn, if_false]
   cases hq : jF9 q with
   | none =>
    by_cases hw : w0 = w
    ·simp only [Option.map_none, hw, if_true]
     unfold jNg
     split
     ·rename_i nm' a b c d heq
      have e1 : nm = nm' := (List.cons.inj heq).1
      have e2 : q = [a, b, c, d] := (List.cons.inj heq).2
      rw [← e1, if_neg hn, ← e2, hq]
     ·rfl
    ·simp [hw]
   | some ns =>
    have hl := jL6 hq
    simp only [Option.map_some]
    by_cases hw : w0 = w
    ·simp only [hw, if_true]
     match q, hq, hl with
     | [], _, hl => match ns, hl with | [], _ => rfl
     | [a], _, hl => match ns, hl with | [p], _ => rfl
     | [a, b], _, hl => match ns, hl with | [p, s], _ => rfl
     | [a, b, c], _, hl => match ns, hl with | [p, s, t], _ => rfl
     | [a, b, c, d], hq, hl =>
      match ns, hl, hq with
      | [p, s, t, u], _, hq =>
       have e : jNg [nm, a, b, c, d] = if nm = [] then none else (match jF9 [a, b, c, d] with | some [p, q, s, t] => some (⟨nm, p, q, s, t⟩ : jJ0) | _ => none) := rfl
       rw [e, if_neg hn, hq]
     | a :: b :: c :: d :: e :: q', _, hl => match ns, hl with | p :: s :: t :: u :: v :: ns', _ => rfl
    ·simp [hw]
theorem staS_w {x w0 : Str} {r : List Str} (h : jH2 32 x = w0 :: r) : qY0 x = if w0 = qUj then (jF9 r).bind qK1 else none := by
 unfold qY0 jNw
 rw [h]
 simp only [cnF]
 cases jF9 r with
 | none => simp
 | some ns => simp
def qJj (r : List Str) : Option (Str × Int) := match r with
 | [nm, a] => if nm = [] then none else (jMd a).map fun n => (nm, n)
 | _ => none
theorem qGy {x w0 : Str} {r : List Str} {g : jJp} (h : jH2 32 x = w0 :: r) : jTk g x 0 = if w0 = jS2 then (qJj r).map fun p => ({ g with Name := p.1, Length := p.2 }, 1) else none := by
 unfold jTk jNw
 rw [if_pos rfl, h]
 simp only [cnT]
 match r with
 | [] => by_cases hw : w0 = jS2 <;> simp [hw, qJj]
 | nm :: q =>
  by_cases hn : nm = []
  ·by_cases hw : w0 = jS2
   ·simp only [hn, if_true, hw]
    unfold qJj
    split
    ·rename_i heq; simp at heq; simp [heq.1]
    ·rfl
   ·simp [hn, hw]
  ·simp only [hn, if_false]
   cases hq : jF9 q with
   | none =>
    by_cases hw : w0 = jS2
    ·simp only [Option.map_none, hw, if_true]
     unfold qJj
     split
     ·rename_i nm' a heq
      have e1 : nm = nm' := (List.cons.inj heq).1
      have e2 : q = [a] := (List.cons.inj heq).2
      rw [← e1, if_neg hn]
      cases hp : jMd a with
      | none => rfl
      | some n => rw [e2, jL3 hp] at hq; cases hq
     ·rfl
    ·simp [hw]
   | some ns =>
    have hl := jL6 hq
    simp only [Option.map_some]
    by_cases hw : w0 = jS2
    ·simp only [hw, if_true]
     match q, hq, hl with
     | [], _, hl => match ns, hl with | [], _ => rfl
     | [a], hq, hl =>
      match ns, hl, hq with
      | [p], _, hq =>
       have hp : jMd a = some p := by
        cases hp : jMd a with
        | none => rw [jNx hp] at hq; cases hq
        | some n => rw [jL3 hp] at hq; cases hq; rfl
       have e : qJj [nm, a] = if nm = [] then none else (jMd a).map fun n => (nm, n) := rfl
       rw [e, if_neg hn, hp]; rfl
     | a :: b :: q', _, hl => match ns, hl with | p :: s :: ns', _ => rfl
    ·simp [hw]
end Go.KB
namespace Go.KB
set_option linter.unusedVariables false
set_option maxRecDepth 100000
theorem qGx {x w0 : Str} {r : List Str} {g : jJp} (h : jH2 32 x = w0 :: r) : jTk g x 1 = if w0 = qUj then ((jF9 r).bind qK1).map (fun t => ({ g with Stations := g.Stations ++ [t] }, 1)) else if w0 = jPa then (jNg r).map (fun y => ({ g with Light := y }, 2)) else none := by
 unfold jTk
 rw [if_neg (by decide), if_pos rfl, qZ6 h, staS_w h]
 by_cases h1 : w0 = qUj
 ·rw [if_pos h1, if_pos h1, if_neg (by rw [h1]; decide)]
 ·rw [if_neg h1, if_neg h1]
  by_cases h2 : w0 = jPa
  ·rw [if_pos h2, if_pos h2]
   cases jNg r <;> rfl
  ·rw [if_neg h2, if_neg h2]; rfl
theorem qGz {x w0 : Str} {r : List Str} {g : jJp} (h : jH2 32 x = w0 :: r) : jTk g x 2 = if w0 = jC2 then (jNg r).map (fun y => ({ g with Items := g.Items ++ [y] }, 2)) else none := by
 unfold jTk
 rw [if_neg (by decide), if_neg (by decide), qZ6 h]
 by_cases h1 : w0 = jC2
 ·rw [if_pos h1, if_pos h1]
 ·rw [if_neg h1, if_neg h1]; rfl
theorem numW_4 {a b c d : Str} {ns : List Int} (h : jF9 [a, b, c, d] = some ns) : ∃ p q s t, ns = [p, q, s, t] := by
 have hl := jL6 h
 match ns, hl with
 | [p, q, s, t], _ => exact ⟨p, q, s, t, rfl⟩
theorem qZq {r : List Str} (h : r.length ≠ 5) : jNg r = none := by
 unfold jNg
 split
 ·rename_i heq; exact absurd rfl h
 ·rfl
theorem jTh {N : Nat} {w0 : Str} {r : List Str} {g : jJp} {st : Int} (hr : r.length ≤ 100000) (hw : ∀ w ∈ r, w.length ≤ 100000) (h2 : g.Items.length ≤ 1000000) (hN : 2 ^ 64 ≤ N) (sel fl : Bool) :
    ∃ o, ((bif (sel && (jJq .eql (List.length (w0 :: r) : Int) 6)) then (idx (w0 :: r) 1) else some []).bind fun v19 => bif ((sel && (jJq .eql (List.length (w0 :: r) : Int) 6)) && (jXy .neq v19 ([] : Str))) then ((slc (w0 :: r) 2 (List.length (w0 :: r) : Int)).bind fun v20 => (jV8 N v20).bind fun v21 => bif v21.2 then ((idx (w0 :: r) 1).bind fun v22 => (idx v21.1 0).bind fun v23 => (idx v21.1 1).bind fun v24 => (idx v21.1 2).bind fun v25 => (idx v21.1 3).bind fun v26 => bif fl then (some (({ g with Light := (⟨v22, v23, v24, v25, v26⟩ : jJ0) } : jJp), 2, v21.2)) else ((app g.Items [(⟨v22, v23, v24, v25, v26⟩ : jJ0)]).bind fun v27 => some (({ g with Items := v27 } : jJp), 2, v21.2))) else (some (g, st, v21.2))) else (some (g, st, false)) : Option (jJp × Int × Bool)) = some o ∧
      (match (bif sel then jNg r else none) with
       | some y => o = (bif fl then ({ g with Light := y }, 2, true) else ({ g with Items := g.Items ++ [y] }, 2, true))
       | none => o.2.2 = false) := by
  have hno : ∀ nm : Bool, (nm = false) → ∃ o, ((bif nm then (idx (w0 :: r) 1) else some []).bind fun v19 => bif (nm && (jXy .neq v19 ([] : Str))) then ((slc (w0 :: r) 2 (List.length (w0 :: r) : Int)).bind fun v20 => (jV8 N v20).bind fun v21 => bif v21.2 then ((idx (w0 :: r) 1).bind fun v22 => (idx v21.1 0).bind fun v23 => (idx v21.1 1).bind fun v24 => (idx v21.1 2).bind fun v25 => (idx v21.1 3).bind fun v26 => bif fl then (some (({ g with Light := (⟨v22, v23, v24, v25, v26⟩ : jJ0) } : jJp), 2, v21.2)) else ((app g.Items [(⟨v22, v23, v24, v25, v26⟩ : jJ0)]).bind fun v27 => some (({ g with Items := v27 } : jJp), 2, v21.2))) else (some (g, st, v21.2))) else (some (g, st, false)) : Option (jJp × Int × Bool)) = some o ∧ o.2.2 = false := by
    rintro _ rfl
    exact ⟨(g, st, false), rfl, rfl⟩
  cases sel with
  | false =>
    obtain ⟨o, h1, h3⟩ := hno (false && (jJq .eql (List.length (w0 :: r) : Int) 6)) rfl
    exact ⟨o, h1, h3⟩
  | true =>
    simp only [cnT]
    by_cases hl : r.length = 5
    · match r, hl, hr, hw with
      | [nm, a, b, c, d], _, hr, hw =>
        rw [jW0, dT (show ((w0 :: [nm, a, b, c, d]).length : Int) = 6 by rfl), Bool.true_and, cnT, show idx (w0 :: [nm, a, b, c, d]) 1 = some nm from rfl, bS, Bool.true_and, jFv]
        have eR : jNg [nm, a, b, c, d] = if nm = [] then none else (match jF9 [a, b, c, d] with | some [p, q, s, t] => some (⟨nm, p, q, s, t⟩ : jJ0) | _ => none) := rfl
        rw [eR]
        by_cases hn : nm = []
        · rw [dT hn, Bool.not_true, cnF, if_pos hn]
          exact ⟨(g, st, false), rfl, rfl⟩
        · have e2 : slc (w0 :: [nm, a, b, c, d]) 2 ((w0 :: [nm, a, b, c, d]).length : Int) = some [a, b, c, d] := jFg (l := w0 :: [nm, a, b, c, d]) (a := 2) (by simp)
          rw [dF hn, Bool.not_false, cnT, if_neg hn, e2, bS, jSn (by simp) (fun w hwm => hw w (List.mem_cons_of_mem _ hwm)) hN, bS]
          cases hq : jF9 [a, b, c, d] with
          | none => exact ⟨(g, st, false), rfl, rfl⟩
          | some ns =>
            obtain ⟨p, q, s, t, rfl⟩ := numW_4 hq
            simp only [cnT]
            rw [bS, show idx [p, q, s, t] 0 = some p from rfl, bS, show idx [p, q, s, t] 1 = some q from rfl, bS, show idx [p, q, s, t] 2 = some s from rfl, bS, show idx [p, q, s, t] 3 = some t from rfl, bS]
            cases fl with
            | true => exact ⟨_, rfl, rfl⟩
            | false => rw [cnF, jDf (by simp; unfold lim; omega), bS]; exact ⟨_, rfl, rfl⟩
    · have hb : (true && (jJq .eql (List.length (w0 :: r) : Int) 6)) = false := by
        rw [Bool.true_and, jW0, dF (by simp only [List.length_cons]; omega)]
      rw [qZq hl]
      obtain ⟨o, h1, h3⟩ := hno _ hb
      exact ⟨o, h1, h3⟩
end Go.KB
namespace Go.KB
set_option linter.unusedVariables false
set_option maxRecDepth 100000
theorem qZ7 {ns : List Int} : ∃ b, ((bif (true && (jJq .geq (List.length ns : Int) 3)) then (jS9 (List.length ns : Int) 2) else some 0) = some b ∧ ((true && (jJq .geq (List.length ns : Int) 3)) && (jJq .eql b 1)) = (qK1 ns).isSome) := by
 rw [Bool.true_and, jMp]
 match ns with
 | [] => exact ⟨0, rfl, rfl⟩
 | [a] => exact ⟨0, rfl, rfl⟩
 | [a, b] => exact ⟨0, rfl, rfl⟩
 | a :: b :: c :: r =>
  rw [dT (show (3 : Int) ≤ ((a :: b :: c :: r).length : Int) by simp only [List.length_cons]; omega), cnT]
  refine ⟨(((a :: b :: c :: r).length % 2 : Nat) : Int), qGc (b := 2) (by decide), ?_⟩
  have e : qK1 (a :: b :: c :: r) = if (a :: b :: c :: r).length % 2 = 1 then some (⟨a, b, (dei (c :: r)).1, (dei (c :: r)).2⟩ : jJv) else none := rfl
  rw [e, jW0, Bool.true_and]
  by_cases h : (a :: b :: c :: r).length % 2 = 1
  ·rw [if_pos h, dT (by omega)]; rfl
  ·rw [if_neg h, dF (by omega)]; rfl
theorem rstep {N : Nat} {l : List Str} {wh : Bool} {z g : jJp} {st : Int} {i : Nat} (hi : i < l.length) (hl : l.length ≤ 100000) (hx : l[i].length ≤ 60000) (hst : st = 0 ∨ st = 1 ∨ st = 2) (h1 : g.Stations.length ≤ 1000000) (h2 : g.Items.length ≤ 1000000) (hN : 2 ^ 64 ≤ N) :
    jZ9 N (l, wh) (z, g, st, (i : Int)) = some (match jTk g l[i] st with | some (g', st') => .inl (z, g', st', ((i + 1 : Nat) : Int)) | none => .inr (Sum.inr (jKz, ((i + 1 : Nat) : Int), true))) := by
  have hk := jD1 (c := 32) l[i]
  unfold jZ9
  simp only []
  rw [jXx, dT (show (i : Int) < (l.length : Int) by omega), cnT, jKu hi, bS, qYq hx hN, bS, jN4 (by omega)]
  cases h : jH2 32 l[i] with
  | nil => exact absurd h (jT3 _)
  | cons w0 r =>
    rw [h] at hk
    have hr : r.length ≤ 100000 := by have := hk.1; simp only [List.length_cons] at this; omega
    have hw : ∀ w ∈ r, w.length ≤ 100000 := fun w hwm => by have := hk.2 w (List.mem_cons_of_mem _ hwm); omega
    have i0 : idx (w0 :: r) 0 = some w0 := rfl
    rcases hst with rfl | rfl | rfl
    · rw [qGy h, show jJq .eql 0 0 = true from rfl, cnT, i0, bS, Bool.true_and, show ([115, 104, 105, 112] : Str) = jS2 from rfl, jWc]
      by_cases hs : w0 = jS2
      · rw [if_pos hs, dT hs, Bool.true_and]
        by_cases h3 : r.length = 2
        · match r, h3, hw with
          | [nm, a], _, hw =>
            rw [show jJq .eql (List.length (w0 :: [nm, a]) : Int) 3 = true from rfl, cnT, show idx (w0 :: [nm, a]) 1 = some nm from rfl, bS, Bool.true_and, jFv]
            have e : qJj [nm, a] = if nm = [] then none else (jMd a).map fun n => (nm, n) := rfl
            rw [e]
            by_cases hn : nm = []
            · rw [dT hn, if_pos hn]; rfl
            · obtain ⟨v, hv, hvn⟩ := jTm (N := N) (w := a) (hw a (by simp)) hN
              rw [dF hn, if_neg hn, Bool.not_false, cnT, show idx (w0 :: [nm, a]) 2 = some a from rfl, bS, hv, bS, bS, bS]
              cases hp : jMd a with
              | none => rfl
              | some n => rw [hvn n hp]; rfl
        · have hb : jJq .eql (List.length (w0 :: r) : Int) 3 = false := by rw [jW0, dF (by simp only [List.length_cons]; omega)]
          have e : qJj r = none := by
            unfold qJj
            split
            · exact absurd rfl h3
            · rfl
          rw [hb, e]; rfl
      · rw [if_neg hs, dF hs]; rfl
    · rw [qGx h, show jJq .eql 1 0 = false from rfl, cnF, bS, Bool.false_and, Bool.false_and, cnF, bS, Bool.false_and, cnF, show jJq .eql 1 1 = true from rfl, cnT, i0, bS, Bool.true_and, show ([115, 116, 97, 116, 105, 111, 110] : Str) = qUj from rfl, jWc]
      by_cases hs : w0 = qUj
      · have e1 : slc (w0 :: r) 1 ((w0 :: r).length : Int) = some r := jFg (l := w0 :: r) (a := 1) (by simp)
        rw [dT hs, cnT, if_pos hs, e1, bS, jSn hr hw hN, bS]
        cases hq : jF9 r with
        | none => rfl
        | some ns =>
          have hnl := jL6 hq
          obtain ⟨b, hb1, hb2⟩ := qZ7 (ns := ns)
          simp only []
          rw [hb1, bS, hb2, bS]
          cases hs2 : qK1 ns with
          | none => rfl
          | some t =>
            simp only [Option.isSome_some, cnT]
            rw [qJt (by omega) hs2 hN, bS, jDf (by simp; unfold lim; omega), bS, bS]
            rfl
      · rw [dF hs, cnF, if_neg hs, show ([108, 105, 103, 104, 116] : Str) = jPa from rfl]
        obtain ⟨o, ho, hp⟩ := jTh (N := N) (w0 := w0) (r := r) (g := g) (st := 1) hr hw h2 hN (jXy .eql w0 jPa) true
        simp only [bS, cnT, cnF, Bool.true_and, Bool.and_false, Bool.false_and, Bool.or_false, show jJq .eql 1 2 = false from rfl] at ho ⊢
        rw [ho, bS]
        rw [jWc] at hp
        by_cases hl2 : w0 = jPa
        · rw [dT hl2, cnT] at hp
          rw [if_pos hl2]
          cases hR : jNg r with
          | none => rw [hR] at hp; have hp : o.2.2 = false := hp; rw [hp]; rfl
          | some y => rw [hR] at hp; have hp : o = _ := hp; rw [hp]; rfl
        · rw [dF hl2, cnF] at hp
          have hp : o.2.2 = false := hp
          rw [if_neg hl2, hp]; rfl
    · obtain ⟨o, ho, hp⟩ := jTh (N := N) (w0 := w0) (r := r) (g := g) (st := 2) hr hw h2 hN (jXy .eql w0 jC2) false
      rw [qGz h, show ([105, 116, 101, 109] : Str) = jC2 from rfl]
      simp only [bS, cnT, cnF, Bool.true_and, Bool.false_and, Bool.false_or, Bool.not_false, show jJq .eql 2 0 = false from rfl, show jJq .eql 2 1 = false from rfl, show jJq .eql 2 2 = true from rfl, i0] at ho ⊢
      rw [ho, bS]
      rw [jWc] at hp
      by_cases hl2 : w0 = jC2
      · rw [dT hl2, cnT] at hp
        rw [if_pos hl2]
        cases hR : jNg r with
        | none => rw [hR] at hp; have hp : o.2.2 = false := hp; rw [hp]; rfl
        | some y => rw [hR] at hp; have hp : o = _ := hp; rw [hp]; rfl
      · rw [dF hl2, cnF] at hp
        have hp : o.2.2 = false := hp
        rw [if_neg hl2, hp]; rfl
theorem rloop {N : Nat} {l : List Str} {wh : Bool} {z : jJp} (hl : l.length ≤ 100000) (hx : ∀ x ∈ l, x.length ≤ 60000) (hN : 2 ^ 64 ≤ N) : ∀ (k i : Nat) (g : jJp) (st : Int) (M : Nat), i + k = l.length → k < M → GOk g i → (st = 0 ∨ st = 1 ∨ st = 2) →
  jQ2 (jZ9 N (l, wh)) M (z, g, st, (i : Int)) = some (match qJp g st (l.drop i) i with | .inl (g', st') => Sum.inl (z, g', st') | .inr k => Sum.inr (jKz, (k : Int), true)) := by
 intro k
 induction k with
 | zero =>
  intro i g st M hi hM _ _
  obtain ⟨M, rfl⟩ : ∃ m, M = m + 1 := ⟨M - 1, by omega⟩
  have e : jZ9 N (l, wh) (z, g, st, (i : Int)) = some (.inr (Sum.inl (z, g, st))) := by
   unfold jZ9
   simp only [jXx]
   rw [dF (by omega), cnF]
  rw [jQ2, e, List.drop_of_length_le (by omega)]
  rfl
 | succ k ih =>
  intro i g st M hi hM hg hst
  obtain ⟨M, rfl⟩ : ∃ m, M = m + 1 := ⟨M - 1, by omega⟩
  have hlt : i < l.length := by omega
  have hxi := hx _ (List.getElem_mem hlt)
  have h1 := hg.st
  have h2 := hg.it
  have e := rstep (N := N) (wh := wh) (z := z) (g := g) hlt hl hxi hst (by omega) (by omega) hN
  rw [List.drop_eq_getElem_cons hlt, qJp]
  cases ha : jTk g l[i] st with
  | none => rw [ha] at e; rw [jQ2, e]
  | some p =>
   obtain ⟨g', st'⟩ := p
   rw [ha] at e
   rw [jQ2, e]
   simp only []
   have hok := jCf hxi hg ha
   exact ih (i + 1) g' st' M (by omega) (by omega) hok.1 (.inr hok.2)
theorem qGp : ∀ {l : List Str} {g : jJp} {st : Int} {n : Nat} {r : jJp × Int}, (∀ x ∈ l, x.length ≤ 60000) → GOk g n → (st = 0 ∨ st = 1 ∨ st = 2) → qJp g st l n = .inl r → r.2 = 0 ∨ r.2 = 1 ∨ r.2 = 2 := by
 intro l
 induction l with
 | nil => intro g st n r _ _ hst h; rw [qJp] at h; cases h; exact hst
 | cons x l ih =>
  intro g st n r hx hg _ h
  rw [qJp] at h
  cases ha : jTk g x st with
  | none => rw [ha] at h; cases h
  | some p =>
   obtain ⟨g', st'⟩ := p
   rw [ha] at h
   have hok := jCf (hx x List.mem_cons_self) hg ha
   exact ih (fun y hy => hx y (List.mem_cons_of_mem _ hy)) hok.1 (.inr hok.2) h
theorem qVk {N : Nat} {x : Str} {l : List Str} {y : Str} (hx : x.length ≤ 60000) (h1 : jH2 10 x = l ++ [y]) (hxl : ∀ z ∈ l, z.length ≤ 60000) (hN : 2 ^ 64 ≤ N) :
  jUu N x = some (match jPp l y with | .inl s => (s, 0, false) | .inr k => (jKz, (k : Int), true)) := by
 have hk := (jD1 (c := 10) x).1
 have hll : l.length ≤ 60000 := by rw [h1] at hk; simp at hk; omega
 unfold jUu
 rw [qWt hx hN h1, bS]
 have hr := rloop (N := N) (wh := decide (y = [])) (z := jKz) (by omega) hxl hN l.length 0 jKz 0 N (by omega) (by omega) jSd (.inl rfl)
 rw [List.drop_zero] at hr
 rw [show jQ2 (jZ9 N (l, decide (y = []))) N ((⟨[], 0, [], (⟨[], 0, 0, 0, 0⟩ : jJ0), []⟩ : jJp), (⟨[], 0, [], (⟨[], 0, 0, 0, 0⟩ : jJ0), []⟩ : jJp), 0, 0) = _ from hr, bS]
 unfold jPp
 cases hq : qJp jKz 0 l 0 with
 | inr k => rfl
 | inl p =>
  obtain ⟨g, st⟩ := p
  have hst := qGp hxl jSd (.inl rfl) hq
  simp only [] at hst
  simp only [Sum.elim_inl]
  rw [jXx, jPe (by omega) (by omega)]
  by_cases hy : y = []
  ·rw [dT hy, Bool.not_true, Bool.false_or]
   by_cases h2 : st = 2
   ·rw [dF (by omega), cnF, if_pos ⟨hy, h2⟩]
   ·rw [dT (by omega), cnT, if_neg (fun hh => h2 hh.2)]; rfl
  ·rw [dF hy, Bool.not_false, Bool.true_or, cnT, if_neg (fun hh => hy hh.1)]; rfl
end Go.KB
