/- Numerals of whole numbers, words of a line, lines of a text: plain lists of bytes. No condition. -/
import Derived.Test.YtibkeigeifabmaaGreatDoorPZa
import Derived.Test.YtibkeigeifabmaaGreatDoorKLc
namespace Go.KB
set_option linter.unusedVariables false
theorem qJ2 {d : Nat} (h : d < 10) : (UInt8.ofNat (48 + d)).toNat = 48 + d := by
  rw [UInt8.toNat_ofNat']; omega
theorem jTc {a d : Nat} {l : List UInt8} (hd : d < 10) (ha : a * 10 + d < 1000000000000000000) : Lib.parseUint10 a (UInt8.ofNat (48 + d) :: l) = Lib.parseUint10 (a * 10 + d) l := by
  conv => lhs; unfold Lib.parseUint10
  rw [qJ2 hd, if_pos (by omega), if_neg (by omega), if_neg (by omega), show 48 + d - 48 = d by omega]
theorem qYa : ∀ (u : Nat) (l : List UInt8), u < 1000000000000000000 → Lib.parseUint10 0 (Lib.decDigits u ++ l) = Lib.parseUint10 u l := by
  intro u
  induction u using Nat.strongRecOn with
  | _ u ih =>
    intro l hu
    by_cases h : u < 10
    · rw [Lib.decDigits, dif_pos h]
      have := jTc (a := 0) (d := u) (l := l) h (by omega)
      rw [Nat.zero_mul, Nat.zero_add] at this
      exact this
    · rw [Lib.decDigits, dif_neg h, List.append_assoc, ih (u / 10) (by omega) _ (by omega)]
      have := jTc (a := u / 10) (d := u % 10) (l := l) (by omega) (by omega)
      rw [show u / 10 * 10 + u % 10 = u by omega] at this
      exact this
theorem jCh : ∀ (u : Nat), ∀ b ∈ Lib.decDigits u, 48 ≤ b.toNat ∧ b.toNat ≤ 57 := by
  intro u
  induction u using Nat.strongRecOn with
  | _ u ih =>
    intro b hb
    by_cases h : u < 10
    · rw [Lib.decDigits, dif_pos h, List.mem_singleton] at hb
      rw [hb, qJ2 h]; omega
    · rw [Lib.decDigits, dif_neg h, List.mem_append, List.mem_singleton] at hb
      rcases hb with hb | hb
      · exact ih (u / 10) (by omega) b hb
      · rw [hb, qJ2 (by omega)]; omega
theorem qX1 : ∀ (u : Nat), Lib.decDigits u ≠ [] := by
  intro u
  rw [Lib.decDigits]
  split <;> simp
theorem qG4 (u : Nat) : 1 ≤ (Lib.decDigits u).length := by
  cases h : Lib.decDigits u with
  | nil => exact absurd h (qX1 u)
  | cons a b => simp
theorem jCn : ∀ (k u : Nat), u < 10 ^ (k + 1) → (Lib.decDigits u).length ≤ k + 1 := by
  intro k
  induction k with
  | zero => intro u h; rw [Lib.decDigits, dif_pos (by omega)]; simp
  | succ k ih =>
    intro u h
    rw [Lib.decDigits]
    split
    · simp
    · rw [List.length_append]
      have := ih (u / 10) (by rw [Nat.pow_succ] at h; omega)
      simp; omega
theorem dec_lt : ∀ (k u : Nat), (Lib.decDigits u).length ≤ k + 1 → u < 10 ^ (k + 1) := by
  intro k
  induction k with
  | zero =>
    intro u h
    rw [Lib.decDigits] at h
    split at h
    · simpa using by assumption
    · rw [List.length_append] at h
      have := qG4 (u / 10)
      simp only [List.length_cons, List.length_nil] at h; omega
  | succ k ih =>
    intro u h
    rw [Lib.decDigits] at h
    split at h
    · have : 10 ≤ 10 ^ (k + 1 + 1) := by rw [Nat.pow_succ]; have : 0 < 10 ^ (k + 1) := Nat.pow_pos (by decide); omega
      omega
    · rw [List.length_append] at h
      have := ih (u / 10) (by simp only [List.length_cons, List.length_nil] at h; omega)
      rw [Nat.pow_succ]; omega
theorem jMw {n : Int} (h : 0 ≤ n) : Lib.itoa n = Lib.decDigits n.toNat := by
  unfold Lib.itoa; rw [if_neg (by omega)]
theorem jFb {n : Int} (h : n < 0) : Lib.itoa n = 45 :: Lib.decDigits n.natAbs := by
  unfold Lib.itoa; rw [if_pos h]
theorem qVu {n : Int} : ∀ b ∈ Lib.itoa n, b = 45 ∨ (48 ≤ b.toNat ∧ b.toNat ≤ 57) := by
  intro b hb
  by_cases h : n < 0
  · rw [jFb h] at hb
    rcases List.mem_cons.1 hb with rfl | hb
    · exact .inl rfl
    · exact .inr (jCh _ b hb)
  · rw [jMw (by omega)] at hb
    exact .inr (jCh _ b hb)
theorem qH1 {n : Int} {c : UInt8} (h1 : c.toNat < 45) : ∀ b ∈ Lib.itoa n, b ≠ c := by
  intro b hb e
  rcases qVu b hb with rfl | h
  · rw [← e] at h1; exact absurd h1 (by decide)
  · rw [e] at h; omega
theorem qHt {n : Int} : Lib.itoa n ≠ [] := by
  by_cases h : n < 0
  · rw [jFb h]; simp
  · rw [jMw (by omega)]; exact qX1 _
/- without the sign -/
def mag (w : Str) : Str := match w with | c :: r => if c = 45 then r else c :: r | [] => []
theorem qXe {n : Int} : mag (Lib.itoa n) = Lib.decDigits n.natAbs := by
  by_cases h : n < 0
  · rw [jFb h]; rfl
  · rw [jMw (by omega), show n.toNat = n.natAbs by omega]
    have h0 := jCh n.natAbs
    cases hd : Lib.decDigits n.natAbs with
    | nil => rfl
    | cons c r =>
      rw [hd] at h0
      have hc := h0 c List.mem_cons_self
      show (if c = 45 then r else c :: r) = _
      rw [if_neg]
      intro e; rw [e] at hc; exact absurd hc.1 (by decide)
theorem jCs {n : Int} (h : n.natAbs < 10000000000) : (Lib.itoa n).length ≤ 11 := by
  have := jCn 9 n.natAbs (by omega)
  by_cases h : n < 0
  · rw [jFb h]; simp; omega
  · rw [jMw (by omega), show n.toNat = n.natAbs by omega]; omega
theorem qYu {n : Int} (h : n.natAbs < 1000000000000000000) : Lib.atoiAll (Lib.itoa n) = .ok n := by
  have hp := qYa n.natAbs [] h
  rw [List.append_nil] at hp
  have h0 := jCh n.natAbs
  by_cases hn : n < 0
  · rw [jFb hn]
    unfold Lib.atoiAll
    simp only []
    rw [if_pos (show (45 : UInt8).toNat = 43 ∨ (45 : UInt8).toNat = 45 from .inr rfl)]
    unfold Lib.parseMag
    rw [if_neg (qX1 _), hp]
    simp only [Lib.parseUint10]
    have e45 : (45 : UInt8).toNat = 45 := rfl
    rw [e45, if_neg (by simp), if_neg (by omega), if_pos rfl]
    congr 1
    omega
  · rw [jMw (by omega), show n.toNat = n.natAbs by omega]
    cases hd : Lib.decDigits n.natAbs with
    | nil => exact absurd hd (qX1 _)
    | cons c r =>
      rw [hd] at hp h0
      have hc := h0 c List.mem_cons_self
      unfold Lib.atoiAll
      simp only []
      rw [if_neg (show ¬ (c.toNat = 43 ∨ c.toNat = 45) by omega)]
      unfold Lib.parseMag
      rw [if_neg (by simp), hp]
      simp only [Lib.parseUint10]
      rw [if_neg (by omega), if_neg (by omega), if_neg (by omega)]
      congr 1
      omega
theorem qHb {w : Str} {n : Int} (h : Lib.atoiAll w = .ok n) : -9223372036854775808 ≤ n ∧ n ≤ 9223372036854775807 := by
  unfold Lib.atoiAll at h
  cases w with
  | nil => cases h
  | cons c r =>
    simp only [] at h
    split at h
    · cases h
    · cases h
    · split at h
      · cases h
      · split at h
        · cases h
        · injection h with h
          subst h
          rename_i h1 h2
          by_cases hc : c.toNat = 45
          · rw [if_pos hc]; simp only [hc, true_and] at h2; omega
          · rw [if_neg hc]; simp only [hc, not_false_eq_true, true_and] at h1; omega
/- the number that a word is: at most ten digits, as it is written -/
def qZ9 (w : Str) : Option Int := match Lib.atoiAll w with | .ok n => if Lib.itoa n = w ∧ (mag w).length ≤ 10 then some n else none | _ => none
theorem qYm {n : Int} (h : n.natAbs < 10000000000) : qZ9 (Lib.itoa n) = some n := by
  unfold qZ9
  rw [qYu (by omega)]
  exact if_pos ⟨rfl, by rw [qXe]; exact jCn 9 _ (by omega)⟩
theorem pnum_some {w : Str} {n : Int} (h : qZ9 w = some n) : Lib.itoa n = w ∧ n.natAbs < 10000000000 := by
  unfold qZ9 at h
  split at h
  · split at h
    · cases h
      rename_i h1
      refine ⟨h1.1, ?_⟩
      have := h1.2
      rw [← h1.1, qXe] at this
      exact dec_lt 9 _ this
    · cases h
  · cases h
/- words in a line -/
theorem index_no {c : UInt8} : ∀ (x : Str), (∀ b ∈ x, b ≠ c) → Lib.index x [c] = -1 := by
  intro x
  induction x with
  | nil => intro _; rfl
  | cons b x ih =>
    intro h
    have h1 : ([c] : Str).isPrefixOf (b :: x) = false := by simp [List.isPrefixOf]; exact fun e => h b List.mem_cons_self e.symm
    rw [Lib.index, h1, ih fun y hy => h y (List.mem_cons_of_mem _ hy)]; rfl
theorem qWr {c : UInt8} {rest : Str} : ∀ (x : Str), (∀ b ∈ x, b ≠ c) → Lib.index (x ++ c :: rest) [c] = (x.length : Int) := by
  intro x
  induction x with
  | nil => intro _; rw [List.nil_append, Lib.index]; simp [List.isPrefixOf]
  | cons b x ih =>
    intro h
    have h1 : ([c] : Str).isPrefixOf (b :: (x ++ c :: rest)) = false := by simp [List.isPrefixOf]; exact fun e => h b List.mem_cons_self e.symm
    rw [List.cons_append, Lib.index, h1, ih fun y hy => h y (List.mem_cons_of_mem _ hy)]
    have : ((x.length : Int) == -1) = false := by rw [beq_eq_false_iff_ne]; omega
    rw [this]
    simp
/- a text divided at each byte c -/
def jRh (c : UInt8) : Str → List Str
  | [] => [[]]
  | b :: r => if b = c then [] :: jRh c r else match jRh c r with | [] => [[b]] | x :: l => (b :: x) :: l
theorem qYe {c : UInt8} : ∀ (s : Str), jRh c s ≠ [] := by
  intro s
  cases s with
  | nil => simp [jRh]
  | cons b r =>
    rw [jRh]
    split
    · simp
    · split <;> simp
theorem qWq {c : UInt8} : ∀ (x : Str), (∀ b ∈ x, b ≠ c) → jRh c x = [x] := by
  intro x
  induction x with
  | nil => intro _; rfl
  | cons b x ih =>
    intro h
    rw [jRh, if_neg (h b List.mem_cons_self), ih fun y hy => h y (List.mem_cons_of_mem _ hy)]
theorem qG2 {c : UInt8} {rest : Str} : ∀ (x : Str), (∀ b ∈ x, b ≠ c) → jRh c (x ++ c :: rest) = x :: jRh c rest := by
  intro x
  induction x with
  | nil => intro _; rw [List.nil_append, jRh, if_pos rfl]
  | cons b x ih =>
    intro h
    rw [List.cons_append, jRh, if_neg (h b List.mem_cons_self), ih fun y hy => h y (List.mem_cons_of_mem _ hy)]
/- a byte is there, or it is not: the first one -/
theorem cut_c {c : UInt8} : ∀ (s : Str), (∀ b ∈ s, b ≠ c) ∨ ∃ x rest, s = x ++ c :: rest ∧ ∀ b ∈ x, b ≠ c := by
  intro s
  induction s with
  | nil => exact .inl fun b hb => by cases hb
  | cons a s ih =>
    by_cases h : a = c
    · exact .inr ⟨[], s, by rw [h]; rfl, fun b hb => by cases hb⟩
    · rcases ih with h1 | ⟨x, rest, h1, h2⟩
      · exact .inl fun b hb => by
          rcases List.mem_cons.1 hb with rfl | hb
          · exact h
          · exact h1 b hb
      · refine .inr ⟨a :: x, rest, by rw [h1]; rfl, fun b hb => ?_⟩
        rcases List.mem_cons.1 hb with rfl | hb
        · exact h
        · exact h2 b hb
theorem qZ1 {c : UInt8} : ∀ (k : Nat) (s : Str), s.count c = k → Lib.splitK [c] 0 k s = jRh c s := by
  intro k
  induction k with
  | zero =>
    intro s h
    rw [qWq s fun b hb e => by rw [e] at hb; exact absurd (List.count_pos_iff.2 hb) (by omega), Lib.splitK]
  | succ k ih =>
    intro s h
    rcases cut_c (c := c) s with h1 | ⟨x, rest, h1, h2⟩
    · rw [List.count_eq_zero.2 (fun hm => h1 c hm rfl)] at h; cases h
    · subst h1
      rw [List.count_append, List.count_eq_zero.2 (fun hm => h2 c hm rfl), List.count_cons_self] at h
      rw [qG2 x h2, Lib.splitK, qWr x h2]
      have : ((x.length : Int) == -1) = false := by rw [beq_eq_false_iff_ne]; omega
      rw [this]
      simp only [Bool.false_eq_true, if_false, Int.toNat_natCast, Nat.add_zero]
      rw [List.take_left, List.length_singleton, show x ++ c :: rest = (x ++ [c]) ++ rest by simp, show x.length + 1 = (x ++ [c]).length by simp, List.drop_left, ih rest (by omega)]
theorem qZe {c : UInt8} {s : Str} : jSt s [c] = jRh c s := by
  unfold jSt
  rw [Lib.splitB_data]
  have hc : Lib.countB (bA s) (bA [c]) = s.count c := by
    show Lib.count s [c] = _
    exact Lib.count_one c s
  rw [hc]
  exact qZ1 _ s rfl
theorem jR9 {c : UInt8} : ∀ (r : List Str) (x : Str), (∀ b ∈ x, b ≠ c) → (∀ y ∈ r, ∀ b ∈ y, b ≠ c) → jRh c (x ++ Lib.joinTail [c] r) = x :: r := by
  intro r
  induction r with
  | nil => intro x hx _; simp [Lib.joinTail, qWq x hx]
  | cons y r ih =>
    intro x hx hr
    have e : x ++ Lib.joinTail [c] (y :: r) = x ++ c :: (y ++ Lib.joinTail [c] r) := by simp [Lib.joinTail]
    rw [e, qG2 x hx, ih y (hr y List.mem_cons_self) fun z hz => hr z (List.mem_cons_of_mem _ hz)]
end Go.KB
