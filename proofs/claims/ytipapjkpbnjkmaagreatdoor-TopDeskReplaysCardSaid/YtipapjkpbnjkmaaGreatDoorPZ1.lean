/- Numerals of whole numbers, words of a line, lines of a text: plain lists of bytes. No condition. -/
import Derived.Test.YtipapjkpbnjkmaaGreatDoorPZa
import Derived.Test.YtipapjkpbnjkmaaGreatDoorKZh
namespace Go.KB
set_option linter.unusedVariables false
theorem jT7 {d : Nat} (h : d < 10) : (UInt8.ofNat (48 + d)).toNat = 48 + d := by
 rw [UInt8.toNat_ofNat']; omega
theorem jP0 {a d : Nat} {l : List UInt8} (hd : d < 10) (ha : a * 10 + d < 1000000000000000000) : Lib.parseUint10 a (UInt8.ofNat (48 + d) :: l) = Lib.parseUint10 (a * 10 + d) l := by
 conv => lhs; unfold Lib.parseUint10
 rw [jT7 hd, if_pos (by omega), if_neg (by omega), if_neg (by omega), show 48 + d - 48 = d by omega]
theorem qXy : ∀ (u : Nat) (l : List UInt8), u < 1000000000000000000 → Lib.parseUint10 0 (Lib.decDigits u ++ l) = Lib.parseUint10 u l := by
  intro u
  induction u using Nat.strongRecOn with
  | _ u ih =>
    intro l hu
    by_cases h : u < 10
    · rw [Lib.decDigits, dif_pos h]
      have := jP0 (a := 0) (d := u) (l := l) h (by omega)
      rw [Nat.zero_mul, Nat.zero_add] at this
      exact this
    · rw [Lib.decDigits, dif_neg h, List.append_assoc, ih (u / 10) (by omega) _ (by omega)]
      have := jP0 (a := u / 10) (d := u % 10) (l := l) (by omega) (by omega)
      rw [show u / 10 * 10 + u % 10 = u by omega] at this
      exact this
theorem jC3 : ∀ (u : Nat), ∀ b ∈ Lib.decDigits u, 48 ≤ b.toNat ∧ b.toNat ≤ 57 := by
 intro u
 induction u using Nat.strongRecOn with
 | _ u ih =>
  intro b hb
  by_cases h : u < 10
  ·rw [Lib.decDigits, dif_pos h, List.mem_singleton] at hb
   rw [hb, jT7 h]; omega
  ·rw [Lib.decDigits, dif_neg h, List.mem_append, List.mem_singleton] at hb
   rcases hb with hb | hb
   ·exact ih (u / 10) (by omega) b hb
   ·rw [hb, jT7 (by omega)]; omega
theorem qXa : ∀ (u : Nat), Lib.decDigits u ≠ [] := by
 intro u
 rw [Lib.decDigits]
 split <;> simp
theorem jCs : ∀ (k u : Nat), u < 10 ^ (k + 1) → (Lib.decDigits u).length ≤ k + 1 := by
 intro k
 induction k with
 | zero => intro u h; rw [Lib.decDigits, dif_pos (by omega)]; simp
 | succ k ih =>
  intro u h
  rw [Lib.decDigits]
  split
  ·simp
  ·rw [List.length_append]
   have := ih (u / 10) (by rw [Nat.pow_succ] at h; omega)
   simp; omega
theorem jB7 {n : Int} (h : 0 ≤ n) : Lib.itoa n = Lib.decDigits n.toNat := by
 unfold Lib.itoa; rw [if_neg (by omega)]
theorem jBt {n : Int} (h : n < 0) : Lib.itoa n = 45 :: Lib.decDigits n.natAbs := by
 unfold Lib.itoa; rw [if_pos h]
theorem jNt {n : Int} : ∀ b ∈ Lib.itoa n, b = 45 ∨ (48 ≤ b.toNat ∧ b.toNat ≤ 57) := by
  intro b hb
  by_cases h : n < 0
  · rw [jBt h] at hb
    rcases List.mem_cons.1 hb with rfl | hb
    · exact .inl rfl
    · exact .inr (jC3 _ b hb)
  · rw [jB7 (by omega)] at hb
    exact .inr (jC3 _ b hb)
theorem qUw {n : Int} {c : UInt8} (h1 : c.toNat < 45) : ∀ b ∈ Lib.itoa n, b ≠ c := by
 intro b hb e
 rcases jNt b hb with rfl | h
 ·rw [← e] at h1; exact absurd h1 (by decide)
 ·rw [e] at h; omega
theorem qK6 {n : Int} : Lib.itoa n ≠ [] := by
 by_cases h : n < 0
 ·rw [jBt h]; simp
 ·rw [jB7 (by omega)]; exact qXa _
theorem jM8 {n : Int} (h : n.natAbs < 10000000000) : (Lib.itoa n).length ≤ 11 := by
 have := jCs 9 n.natAbs (by omega)
 by_cases h : n < 0
 ·rw [jBt h]; simp; omega
 ·rw [jB7 (by omega), show n.toNat = n.natAbs by omega]; omega
theorem qZ8 {n : Int} (h : n.natAbs < 1000000000000000000) : Lib.atoiAll (Lib.itoa n) = .ok n := by
  have hp := qXy n.natAbs [] h
  rw [List.append_nil] at hp
  have h0 := jC3 n.natAbs
  by_cases hn : n < 0
  · rw [jBt hn]
    unfold Lib.atoiAll
    simp only []
    rw [if_pos (show (45 : UInt8).toNat = 43 ∨ (45 : UInt8).toNat = 45 from .inr rfl)]
    unfold Lib.parseMag
    rw [if_neg (qXa _), hp]
    simp only [Lib.parseUint10]
    have e45 : (45 : UInt8).toNat = 45 := rfl
    rw [e45, if_neg (by simp), if_neg (by omega), if_pos rfl]
    congr 1
    omega
  · rw [jB7 (by omega), show n.toNat = n.natAbs by omega]
    cases hd : Lib.decDigits n.natAbs with
    | nil => exact absurd hd (qXa _)
    | cons c r =>
      rw [hd] at hp h0
      have hc := h0 c List.mem_cons_self
      unfold Lib.atoiAll
      simp only []
      rw [if_neg (show ¬ (c.toNat = 43 ∨ c.toNat = 45) by omega)]
      unfold Lib.parseMag
      rw [if_neg (by simp), hp]
      simp only [Lib.parseUint10]
      rw [if_neg (by omega), if_neg (by omega), if_neg (by omega)]
      congr 1
      omega
theorem qWm {c : UInt8} : ∀ (x : Str), (∀ b ∈ x, b ≠ c) → Lib.index x [c] = -1 := by
 intro x
 induction x with
 | nil => intro _; rfl
 | cons b x ih =>
  intro h
  have h1 : ([c] : Str).isPrefixOf (b :: x) = false := by simp [List.isPrefixOf]; exact fun e => h b List.mem_cons_self e.symm
  rw [Lib.index, h1, ih fun y hy => h y (List.mem_cons_of_mem _ hy)]; rfl
theorem jC0 {c : UInt8} {rest : Str} : ∀ (x : Str), (∀ b ∈ x, b ≠ c) → Lib.index (x ++ c :: rest) [c] = (x.length : Int) := by
 intro x
 induction x with
 | nil => intro _; rw [List.nil_append, Lib.index]; simp [List.isPrefixOf]
 | cons b x ih =>
  intro h
  have h1 : ([c] : Str).isPrefixOf (b :: (x ++ c :: rest)) = false := by simp [List.isPrefixOf]; exact fun e => h b List.mem_cons_self e.symm
  rw [List.cons_append, Lib.index, h1, ih fun y hy => h y (List.mem_cons_of_mem _ hy)]
  have : ((x.length : Int) == -1) = false := by rw [beq_eq_false_iff_ne]; omega
  rw [this]
  simp
def jMf (c : UInt8) : Str → List Str
 | [] => [[]]
 | b :: r => if b = c then [] :: jMf c r else match jMf c r with | [] => [[b]] | x :: l => (b :: x) :: l
theorem qU2 {c : UInt8} : ∀ (s : Str), jMf c s ≠ [] := by
 intro s
 cases s with
 | nil => simp [jMf]
 | cons b r =>
  rw [jMf]
  split
  ·simp
  ·split <;> simp
theorem qX8 {c : UInt8} : ∀ (x : Str), (∀ b ∈ x, b ≠ c) → jMf c x = [x] := by
 intro x
 induction x with
 | nil => intro _; rfl
 | cons b x ih =>
  intro h
  rw [jMf, if_neg (h b List.mem_cons_self), ih fun y hy => h y (List.mem_cons_of_mem _ hy)]
theorem qKw {c : UInt8} {rest : Str} : ∀ (x : Str), (∀ b ∈ x, b ≠ c) → jMf c (x ++ c :: rest) = x :: jMf c rest := by
 intro x
 induction x with
 | nil => intro _; rw [List.nil_append, jMf, if_pos rfl]
 | cons b x ih =>
  intro h
  rw [List.cons_append, jMf, if_neg (h b List.mem_cons_self), ih fun y hy => h y (List.mem_cons_of_mem _ hy)]
theorem cut_c {c : UInt8} : ∀ (s : Str), (∀ b ∈ s, b ≠ c) ∨ ∃ x rest, s = x ++ c :: rest ∧ ∀ b ∈ x, b ≠ c := by
  intro s
  induction s with
  | nil => exact .inl fun b hb => by cases hb
  | cons a s ih =>
    by_cases h : a = c
    · exact .inr ⟨[], s, by rw [h]; rfl, fun b hb => by cases hb⟩
    · rcases ih with h1 | ⟨x, rest, h1, h2⟩
      · exact .inl fun b hb => by
          rcases List.mem_cons.1 hb with rfl | hb
          · exact h
          · exact h1 b hb
      · refine .inr ⟨a :: x, rest, by rw [h1]; rfl, fun b hb => ?_⟩
        rcases List.mem_cons.1 hb with rfl | hb
        · exact h
        · exact h2 b hb
theorem qQp {c : UInt8} : ∀ (k : Nat) (s : Str), s.count c = k → Lib.splitK [c] 0 k s = jMf c s := by
 intro k
 induction k with
 | zero =>
  intro s h
  rw [qX8 s fun b hb e => by rw [e] at hb; exact absurd (List.count_pos_iff.2 hb) (by omega), Lib.splitK]
 | succ k ih =>
  intro s h
  rcases cut_c (c := c) s with h1 | ⟨x, rest, h1, h2⟩
  ·rw [List.count_eq_zero.2 (fun hm => h1 c hm rfl)] at h; cases h
  ·subst h1
   rw [List.count_append, List.count_eq_zero.2 (fun hm => h2 c hm rfl), List.count_cons_self] at h
   rw [qKw x h2, Lib.splitK, jC0 x h2]
   have : ((x.length : Int) == -1) = false := by rw [beq_eq_false_iff_ne]; omega
   rw [this]
   simp only [Bool.false_eq_true, if_false, Int.toNat_natCast, Nat.add_zero]
   rw [List.take_left, List.length_singleton, show x ++ c :: rest = (x ++ [c]) ++ rest by simp, show x.length + 1 = (x ++ [c]).length by simp, List.drop_left, ih rest (by omega)]
theorem qQv {c : UInt8} {s : Str} : jN1 s [c] = jMf c s := by
 unfold jN1
 rw [Lib.splitB_data]
 have hc : Lib.countB (bA s) (bA [c]) = s.count c := by
  show Lib.count s [c] = _
  exact Lib.count_one c s
 rw [hc]
 exact qQp _ s rfl
theorem qX0 {c : UInt8} : ∀ (r : List Str) (x : Str), (∀ b ∈ x, b ≠ c) → (∀ y ∈ r, ∀ b ∈ y, b ≠ c) → jMf c (x ++ Lib.joinTail [c] r) = x :: r := by
 intro r
 induction r with
 | nil => intro x hx _; simp [Lib.joinTail, qX8 x hx]
 | cons y r ih =>
  intro x hx hr
  have e : x ++ Lib.joinTail [c] (y :: r) = x ++ c :: (y ++ Lib.joinTail [c] r) := by simp [Lib.joinTail]
  rw [e, qKw x hx, ih y (hr y List.mem_cons_self) fun z hz => hr z (List.mem_cons_of_mem _ hz)]
end Go.KB
