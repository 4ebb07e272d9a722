/- Numerals of whole numbers, words of a line, lines of a text: plain lists of bytes. No condition. -/
import Derived.Test.YtkflmfhgpjpepaaGreatDoorPZa
import Derived.Test.YtkflmfhgpjpepaaGreatDoorKZh
namespace Go.KB
set_option linter.unusedVariables false
theorem jTs {d : Nat} (h : d < 10) : (UInt8.ofNat (48 + d)).toNat = 48 + d := by
 rw [UInt8.toNat_ofNat']; omega
theorem jP3 {a d : Nat} {l : List UInt8} (hd : d < 10) (ha : a * 10 + d < 1000000000000000000) : Lib.parseUint10 a (UInt8.ofNat (48 + d) :: l) = Lib.parseUint10 (a * 10 + d) l := by
 conv => lhs; unfold Lib.parseUint10
 rw [jTs hd, if_pos (by omega), if_neg (by omega), if_neg (by omega), show 48 + d - 48 = d by omega]
theorem qQ8 : ∀ (u : Nat) (l : List UInt8), u < 1000000000000000000 → Lib.parseUint10 0 (Lib.decDigits u ++ l) = Lib.parseUint10 u l := by
  intro u
  induction u using Nat.strongRecOn with
  | _ u ih =>
    intro l hu
    by_cases h : u < 10
    · rw [Lib.decDigits, dif_pos h]
      have := jP3 (a := 0) (d := u) (l := l) h (by omega)
      rw [Nat.zero_mul, Nat.zero_add] at this
      exact this
    · rw [Lib.decDigits, dif_neg h, List.append_assoc, ih (u / 10) (by omega) _ (by omega)]
      have := jP3 (a := u / 10) (d := u % 10) (l := l) (by omega) (by omega)
      rw [show u / 10 * 10 + u % 10 = u by omega] at this
      exact this
theorem jCq : ∀ (u : Nat), ∀ b ∈ Lib.decDigits u, 48 ≤ b.toNat ∧ b.toNat ≤ 57 := by
 intro u
 induction u using Nat.strongRecOn with
 | _ u ih =>
  intro b hb
  by_cases h : u < 10
  ·rw [Lib.decDigits, dif_pos h, List.mem_singleton] at hb
   rw [hb, jTs h]; omega
  ·rw [Lib.decDigits, dif_neg h, List.mem_append, List.mem_singleton] at hb
   rcases hb with hb | hb
   ·exact ih (u / 10) (by omega) b hb
   ·rw [hb, jTs (by omega)]; omega
theorem qY8 : ∀ (u : Nat), Lib.decDigits u ≠ [] := by
 intro u
 rw [Lib.decDigits]
 split <;> simp
theorem qUb : ∀ (k u : Nat), u < 10 ^ (k + 1) → (Lib.decDigits u).length ≤ k + 1 := by
 intro k
 induction k with
 | zero => intro u h; rw [Lib.decDigits, dif_pos (by omega)]; simp
 | succ k ih =>
  intro u h
  rw [Lib.decDigits]
  split
  ·simp
  ·rw [List.length_append]
   have := ih (u / 10) (by rw [Nat.pow_succ] at h; omega)
   simp; omega
theorem jRg {n : Int} (h : 0 ≤ n) : Lib.itoa n = Lib.decDigits n.toNat := by
 unfold Lib.itoa; rw [if_neg (by omega)]
theorem jN6 {n : Int} (h : n < 0) : Lib.itoa n = 45 :: Lib.decDigits n.natAbs := by
 unfold Lib.itoa; rw [if_pos h]
theorem jS1 {n : Int} : ∀ b ∈ Lib.itoa n, b = 45 ∨ (48 ≤ b.toNat ∧ b.toNat ≤ 57) := by
  intro b hb
  by_cases h : n < 0
  · rw [jN6 h] at hb
    rcases List.mem_cons.1 hb with rfl | hb
    · exact .inl rfl
    · exact .inr (jCq _ b hb)
  · rw [jRg (by omega)] at hb
    exact .inr (jCq _ b hb)
theorem qUg {n : Int} {c : UInt8} (h1 : c.toNat < 45) : ∀ b ∈ Lib.itoa n, b ≠ c := by
 intro b hb e
 rcases jS1 b hb with rfl | h
 ·rw [← e] at h1; exact absurd h1 (by decide)
 ·rw [e] at h; omega
theorem jMn {n : Int} (h : n.natAbs < 10000000000) : (Lib.itoa n).length ≤ 11 := by
 have := qUb 9 n.natAbs (by omega)
 by_cases h : n < 0
 ·rw [jN6 h]; simp; omega
 ·rw [jRg (by omega), show n.toNat = n.natAbs by omega]; omega
theorem qZv {n : Int} (h : n.natAbs < 1000000000000000000) : Lib.atoiAll (Lib.itoa n) = .ok n := by
  have hp := qQ8 n.natAbs [] h
  rw [List.append_nil] at hp
  have h0 := jCq n.natAbs
  by_cases hn : n < 0
  · rw [jN6 hn]
    unfold Lib.atoiAll
    simp only []
    rw [if_pos (show (45 : UInt8).toNat = 43 ∨ (45 : UInt8).toNat = 45 from .inr rfl)]
    unfold Lib.parseMag
    rw [if_neg (qY8 _), hp]
    simp only [Lib.parseUint10]
    have e45 : (45 : UInt8).toNat = 45 := rfl
    rw [e45, if_neg (by simp), if_neg (by omega), if_pos rfl]
    congr 1
    omega
  · rw [jRg (by omega), show n.toNat = n.natAbs by omega]
    cases hd : Lib.decDigits n.natAbs with
    | nil => exact absurd hd (qY8 _)
    | cons c r =>
      rw [hd] at hp h0
      have hc := h0 c List.mem_cons_self
      unfold Lib.atoiAll
      simp only []
      rw [if_neg (show ¬ (c.toNat = 43 ∨ c.toNat = 45) by omega)]
      unfold Lib.parseMag
      rw [if_neg (by simp), hp]
      simp only [Lib.parseUint10]
      rw [if_neg (by omega), if_neg (by omega), if_neg (by omega)]
      congr 1
      omega
theorem qWv {c : UInt8} : ∀ (x : Str), (∀ b ∈ x, b ≠ c) → Lib.index x [c] = -1 := by
 intro x
 induction x with
 | nil => intro _; rfl
 | cons b x ih =>
  intro h
  have h1 : ([c] : Str).isPrefixOf (b :: x) = false := by simp [List.isPrefixOf]; exact fun e => h b List.mem_cons_self e.symm
  rw [Lib.index, h1, ih fun y hy => h y (List.mem_cons_of_mem _ hy)]; rfl
theorem qXv {c : UInt8} {rest : Str} : ∀ (x : Str), (∀ b ∈ x, b ≠ c) → Lib.index (x ++ c :: rest) [c] = (x.length : Int) := by
 intro x
 induction x with
 | nil => intro _; rw [List.nil_append, Lib.index]; simp [List.isPrefixOf]
 | cons b x ih =>
  intro h
  have h1 : ([c] : Str).isPrefixOf (b :: (x ++ c :: rest)) = false := by simp [List.isPrefixOf]; exact fun e => h b List.mem_cons_self e.symm
  rw [List.cons_append, Lib.index, h1, ih fun y hy => h y (List.mem_cons_of_mem _ hy)]
  have : ((x.length : Int) == -1) = false := by rw [beq_eq_false_iff_ne]; omega
  rw [this]
  simp
def jMh (c : UInt8) : Str → List Str
 | [] => [[]]
 | b :: r => if b = c then [] :: jMh c r else match jMh c r with | [] => [[b]] | x :: l => (b :: x) :: l
theorem qGx {c : UInt8} : ∀ (s : Str), jMh c s ≠ [] := by
 intro s
 cases s with
 | nil => simp [jMh]
 | cons b r =>
  rw [jMh]
  split
  ·simp
  ·split <;> simp
theorem qZu {c : UInt8} : ∀ (x : Str), (∀ b ∈ x, b ≠ c) → jMh c x = [x] := by
 intro x
 induction x with
 | nil => intro _; rfl
 | cons b x ih =>
  intro h
  rw [jMh, if_neg (h b List.mem_cons_self), ih fun y hy => h y (List.mem_cons_of_mem _ hy)]
theorem qY4 {c : UInt8} {rest : Str} : ∀ (x : Str), (∀ b ∈ x, b ≠ c) → jMh c (x ++ c :: rest) = x :: jMh c rest := by
 intro x
 induction x with
 | nil => intro _; rw [List.nil_append, jMh, if_pos rfl]
 | cons b x ih =>
  intro h
  rw [List.cons_append, jMh, if_neg (h b List.mem_cons_self), ih fun y hy => h y (List.mem_cons_of_mem _ hy)]
theorem cut_c {c : UInt8} : ∀ (s : Str), (∀ b ∈ s, b ≠ c) ∨ ∃ x rest, s = x ++ c :: rest ∧ ∀ b ∈ x, b ≠ c := by
  intro s
  induction s with
  | nil => exact .inl fun b hb => by cases hb
  | cons a s ih =>
    by_cases h : a = c
    · exact .inr ⟨[], s, by rw [h]; rfl, fun b hb => by cases hb⟩
    · rcases ih with h1 | ⟨x, rest, h1, h2⟩
      · exact .inl fun b hb => by
          rcases List.mem_cons.1 hb with rfl | hb
          · exact h
          · exact h1 b hb
      · refine .inr ⟨a :: x, rest, by rw [h1]; rfl, fun b hb => ?_⟩
        rcases List.mem_cons.1 hb with rfl | hb
        · exact h
        · exact h2 b hb
theorem qQy {c : UInt8} : ∀ (k : Nat) (s : Str), s.count c = k → Lib.splitK [c] 0 k s = jMh c s := by
 intro k
 induction k with
 | zero =>
  intro s h
  rw [qZu s fun b hb e => by rw [e] at hb; exact absurd (List.count_pos_iff.2 hb) (by omega), Lib.splitK]
 | succ k ih =>
  intro s h
  rcases cut_c (c := c) s with h1 | ⟨x, rest, h1, h2⟩
  ·rw [List.count_eq_zero.2 (fun hm => h1 c hm rfl)] at h; cases h
  ·subst h1
   rw [List.count_append, List.count_eq_zero.2 (fun hm => h2 c hm rfl), List.count_cons_self] at h
   rw [qY4 x h2, Lib.splitK, qXv x h2]
   have : ((x.length : Int) == -1) = false := by rw [beq_eq_false_iff_ne]; omega
   rw [this]
   simp only [Bool.false_eq_true, if_false, Int.toNat_natCast, Nat.add_zero]
   rw [List.take_left, List.length_singleton, show x ++ c :: rest = (x ++ [c]) ++ rest by simp, show x.length + 1 = (x ++ [c]).length by simp, List.drop_left, ih rest (by omega)]
theorem qJ5 {c : UInt8} {s : Str} : jM1 s [c] = jMh c s := by
 unfold jM1
 rw [Lib.splitB_data]
 have hc : Lib.countB (bA s) (bA [c]) = s.count c := by
  show Lib.count s [c] = _
  exact Lib.count_one c s
 rw [hc]
 exact qQy _ s rfl
theorem qZx {c : UInt8} : ∀ (r : List Str) (x : Str), (∀ b ∈ x, b ≠ c) → (∀ y ∈ r, ∀ b ∈ y, b ≠ c) → jMh c (x ++ Lib.joinTail [c] r) = x :: r := by
 intro r
 induction r with
 | nil => intro x hx _; simp [Lib.joinTail, qZu x hx]
 | cons y r ih =>
  intro x hx hr
  have e : x ++ Lib.joinTail [c] (y :: r) = x ++ c :: (y ++ Lib.joinTail [c] r) := by simp [Lib.joinTail]
  rw [e, qY4 x hx, ih y (hr y List.mem_cons_self) fun z hz => hr z (List.mem_cons_of_mem _ hz)]
end Go.KB
