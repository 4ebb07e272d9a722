/- Numerals of whole numbers, words of a line, lines of a text: plain lists of bytes. The text of a ship, as the program and the reference write it. The text of a ship, as the reference writes it. A line of the text of a ship, as the program reads it. The text of a ship is read back as the ship. No condition. -/
import Derived.Test.YtcoggcadlinmdaaGreatDoorPZa
import Derived.Test.YtcoggcadlinmdaaGreatDoorKZh
import Derived.Test.YtcoggcadlinmdaaGreatDoorPZd
import Derived.Test.YtcoggcadlinmdaaGreatDoorPZb
namespace Go.KB
set_option linter.unusedVariables false
theorem jSr {d : Nat} (h : d < 10) : (UInt8.ofNat (48 + d)).toNat = 48 + d := by
 rw [UInt8.toNat_ofNat']; omega
theorem jTy {a d : Nat} {l : List UInt8} (hd : d < 10) (ha : a * 10 + d < 1000000000000000000) : Lib.parseUint10 a (UInt8.ofNat (48 + d) :: l) = Lib.parseUint10 (a * 10 + d) l := by
 conv => lhs; unfold Lib.parseUint10
 rw [jSr hd, if_pos (by omega), if_neg (by omega), if_neg (by omega), show 48 + d - 48 = d by omega]
theorem qZ3 : ∀ (u : Nat) (l : List UInt8), u < 1000000000000000000 → Lib.parseUint10 0 (Lib.decDigits u ++ l) = Lib.parseUint10 u l := by
  intro u
  induction u using Nat.strongRecOn with
  | _ u ih =>
    intro l hu
    by_cases h : u < 10
    · rw [Lib.decDigits, dif_pos h]
      have := jTy (a := 0) (d := u) (l := l) h (by omega)
      rw [Nat.zero_mul, Nat.zero_add] at this
      exact this
    · rw [Lib.decDigits, dif_neg h, List.append_assoc, ih (u / 10) (by omega) _ (by omega)]
      have := jTy (a := u / 10) (d := u % 10) (l := l) (by omega) (by omega)
      rw [show u / 10 * 10 + u % 10 = u by omega] at this
      exact this
theorem jCp : ∀ (u : Nat), ∀ b ∈ Lib.decDigits u, 48 ≤ b.toNat ∧ b.toNat ≤ 57 := by
 intro u
 induction u using Nat.strongRecOn with
 | _ u ih =>
  intro b hb
  by_cases h : u < 10
  ·rw [Lib.decDigits, dif_pos h, List.mem_singleton] at hb
   rw [hb, jSr h]; omega
  ·rw [Lib.decDigits, dif_neg h, List.mem_append, List.mem_singleton] at hb
   rcases hb with hb | hb
   ·exact ih (u / 10) (by omega) b hb
   ·rw [hb, jSr (by omega)]; omega
theorem qWu : ∀ (u : Nat), Lib.decDigits u ≠ [] := by
 intro u
 rw [Lib.decDigits]
 split <;> simp
theorem qV9 (u : Nat) : 1 ≤ (Lib.decDigits u).length := by
 cases h : Lib.decDigits u with
 | nil => exact absurd h (qWu u)
 | cons a b => simp
theorem jCk : ∀ (k u : Nat), u < 10 ^ (k + 1) → (Lib.decDigits u).length ≤ k + 1 := by
 intro k
 induction k with
 | zero => intro u h; rw [Lib.decDigits, dif_pos (by omega)]; simp
 | succ k ih =>
  intro u h
  rw [Lib.decDigits]
  split
  ·simp
  ·rw [List.length_append]
   have := ih (u / 10) (by rw [Nat.pow_succ] at h; omega)
   simp; omega
theorem dec_lt : ∀ (k u : Nat), (Lib.decDigits u).length ≤ k + 1 → u < 10 ^ (k + 1) := by
  intro k
  induction k with
  | zero =>
    intro u h
    rw [Lib.decDigits] at h
    split at h
    · simpa using by assumption
    · rw [List.length_append] at h
      have := qV9 (u / 10)
      simp only [List.length_cons, List.length_nil] at h; omega
  | succ k ih =>
    intro u h
    rw [Lib.decDigits] at h
    split at h
    · have : 10 ≤ 10 ^ (k + 1 + 1) := by rw [Nat.pow_succ]; have : 0 < 10 ^ (k + 1) := Nat.pow_pos (by decide); omega
      omega
    · rw [List.length_append] at h
      have := ih (u / 10) (by simp only [List.length_cons, List.length_nil] at h; omega)
      rw [Nat.pow_succ]; omega
theorem jRd {n : Int} (h : 0 ≤ n) : Lib.itoa n = Lib.decDigits n.toNat := by
 unfold Lib.itoa; rw [if_neg (by omega)]
theorem jNk {n : Int} (h : n < 0) : Lib.itoa n = 45 :: Lib.decDigits n.natAbs := by
 unfold Lib.itoa; rw [if_pos h]
def mag (w : Str) : Str := match w with | c :: r => if c = 45 then r else c :: r | [] => []
theorem jMj {n : Int} : mag (Lib.itoa n) = Lib.decDigits n.natAbs := by
  by_cases h : n < 0
  · rw [jNk h]; rfl
  · rw [jRd (by omega), show n.toNat = n.natAbs by omega]
    have h0 := jCp n.natAbs
    cases hd : Lib.decDigits n.natAbs with
    | nil => rfl
    | cons c r =>
      rw [hd] at h0
      have hc := h0 c List.mem_cons_self
      show (if c = 45 then r else c :: r) = _
      rw [if_neg]
      intro e; rw [e] at hc; exact absurd hc.1 (by decide)
theorem qWq {n : Int} (h : n.natAbs < 1000000000000000000) : Lib.atoiAll (Lib.itoa n) = .ok n := by
  have hp := qZ3 n.natAbs [] h
  rw [List.append_nil] at hp
  have h0 := jCp n.natAbs
  by_cases hn : n < 0
  · rw [jNk hn]
    unfold Lib.atoiAll
    simp only []
    rw [if_pos (show (45 : UInt8).toNat = 43 ∨ (45 : UInt8).toNat = 45 from .inr rfl)]
    unfold Lib.parseMag
    rw [if_neg (qWu _), hp]
    simp only [Lib.parseUint10]
    have e45 : (45 : UInt8).toNat = 45 := rfl
    rw [e45, if_neg (by simp), if_neg (by omega), if_pos rfl]
    congr 1
    omega
  · rw [jRd (by omega), show n.toNat = n.natAbs by omega]
    cases hd : Lib.decDigits n.natAbs with
    | nil => exact absurd hd (qWu _)
    | cons c r =>
      rw [hd] at hp h0
      have hc := h0 c List.mem_cons_self
      unfold Lib.atoiAll
      simp only []
      rw [if_neg (show ¬ (c.toNat = 43 ∨ c.toNat = 45) by omega)]
      unfold Lib.parseMag
      rw [if_neg (by simp), hp]
      simp only [Lib.parseUint10]
      rw [if_neg (by omega), if_neg (by omega), if_neg (by omega)]
      congr 1
      omega
theorem qU7 {w : Str} {n : Int} (h : Lib.atoiAll w = .ok n) : -9223372036854775808 ≤ n ∧ n ≤ 9223372036854775807 := by
 unfold Lib.atoiAll at h
 cases w with
 | nil => cases h
 | cons c r =>
  simp only [] at h
  split at h
  ·cases h
  ·cases h
  ·split at h
   ·cases h
   ·split at h
    ·cases h
    ·injection h with h
     subst h
     rename_i h1 h2
     by_cases hc : c.toNat = 45
     ·rw [if_pos hc]; simp only [hc, true_and] at h2; omega
     ·rw [if_neg hc]; simp only [hc, not_false_eq_true, true_and] at h1; omega
def jMd (w : Str) : Option Int := match Lib.atoiAll w with | .ok n => if Lib.itoa n = w ∧ (mag w).length ≤ 10 then some n else none | _ => none
theorem qVa {n : Int} (h : n.natAbs < 10000000000) : jMd (Lib.itoa n) = some n := by
 unfold jMd
 rw [qWq (by omega)]
 exact if_pos ⟨rfl, by rw [jMj]; exact jCk 9 _ (by omega)⟩
theorem jDn {w : Str} {n : Int} (h : jMd w = some n) : Lib.itoa n = w ∧ n.natAbs < 10000000000 := by
 unfold jMd at h
 split at h
 ·split at h
  ·cases h
   rename_i h1
   refine ⟨h1.1, ?_⟩
   have := h1.2
   rw [← h1.1, jMj] at this
   exact dec_lt 9 _ this
  ·cases h
 ·cases h
theorem qKs {c : UInt8} : ∀ (x : Str), (∀ b ∈ x, b ≠ c) → Lib.index x [c] = -1 := by
 intro x
 induction x with
 | nil => intro _; rfl
 | cons b x ih =>
  intro h
  have h1 : ([c] : Str).isPrefixOf (b :: x) = false := by simp [List.isPrefixOf]; exact fun e => h b List.mem_cons_self e.symm
  rw [Lib.index, h1, ih fun y hy => h y (List.mem_cons_of_mem _ hy)]; rfl
theorem qV3 {c : UInt8} {rest : Str} : ∀ (x : Str), (∀ b ∈ x, b ≠ c) → Lib.index (x ++ c :: rest) [c] = (x.length : Int) := by
 intro x
 induction x with
 | nil => intro _; rw [List.nil_append, Lib.index]; simp [List.isPrefixOf]
 | cons b x ih =>
  intro h
  have h1 : ([c] : Str).isPrefixOf (b :: (x ++ c :: rest)) = false := by simp [List.isPrefixOf]; exact fun e => h b List.mem_cons_self e.symm
  rw [List.cons_append, Lib.index, h1, ih fun y hy => h y (List.mem_cons_of_mem _ hy)]
  have : ((x.length : Int) == -1) = false := by rw [beq_eq_false_iff_ne]; omega
  rw [this]
  simp
def jH2 (c : UInt8) : Str → List Str
 | [] => [[]]
 | b :: r => if b = c then [] :: jH2 c r else match jH2 c r with | [] => [[b]] | x :: l => (b :: x) :: l
theorem jT3 {c : UInt8} : ∀ (s : Str), jH2 c s ≠ [] := by
 intro s
 cases s with
 | nil => simp [jH2]
 | cons b r =>
  rw [jH2]
  split
  ·simp
  ·split <;> simp
theorem qG7 {c : UInt8} : ∀ (x : Str), (∀ b ∈ x, b ≠ c) → jH2 c x = [x] := by
 intro x
 induction x with
 | nil => intro _; rfl
 | cons b x ih =>
  intro h
  rw [jH2, if_neg (h b List.mem_cons_self), ih fun y hy => h y (List.mem_cons_of_mem _ hy)]
theorem sepC_c {c : UInt8} {rest : Str} : ∀ (x : Str), (∀ b ∈ x, b ≠ c) → jH2 c (x ++ c :: rest) = x :: jH2 c rest := by
 intro x
 induction x with
 | nil => intro _; rw [List.nil_append, jH2, if_pos rfl]
 | cons b x ih =>
  intro h
  rw [List.cons_append, jH2, if_neg (h b List.mem_cons_self), ih fun y hy => h y (List.mem_cons_of_mem _ hy)]
theorem cut_c {c : UInt8} : ∀ (s : Str), (∀ b ∈ s, b ≠ c) ∨ ∃ x rest, s = x ++ c :: rest ∧ ∀ b ∈ x, b ≠ c := by
  intro s
  induction s with
  | nil => exact .inl fun b hb => by cases hb
  | cons a s ih =>
    by_cases h : a = c
    · exact .inr ⟨[], s, by rw [h]; rfl, fun b hb => by cases hb⟩
    · rcases ih with h1 | ⟨x, rest, h1, h2⟩
      · exact .inl fun b hb => by
          rcases List.mem_cons.1 hb with rfl | hb
          · exact h
          · exact h1 b hb
      · refine .inr ⟨a :: x, rest, by rw [h1]; rfl, fun b hb => ?_⟩
        rcases List.mem_cons.1 hb with rfl | hb
        · exact h
        · exact h2 b hb
theorem qX2 {c : UInt8} : ∀ (k : Nat) (s : Str), s.count c = k → Lib.splitK [c] 0 k s = jH2 c s := by
 intro k
 induction k with
 | zero =>
  intro s h
  rw [qG7 s fun b hb e => by rw [e] at hb; exact absurd (List.count_pos_iff.2 hb) (by omega), Lib.splitK]
 | succ k ih =>
  intro s h
  rcases cut_c (c := c) s with h1 | ⟨x, rest, h1, h2⟩
  ·rw [List.count_eq_zero.2 (fun hm => h1 c hm rfl)] at h; cases h
  ·subst h1
   rw [List.count_append, List.count_eq_zero.2 (fun hm => h2 c hm rfl), List.count_cons_self] at h
   rw [sepC_c x h2, Lib.splitK, qV3 x h2]
   have : ((x.length : Int) == -1) = false := by rw [beq_eq_false_iff_ne]; omega
   rw [this]
   simp only [Bool.false_eq_true, if_false, Int.toNat_natCast, Nat.add_zero]
   rw [List.take_left, List.length_singleton, show x ++ c :: rest = (x ++ [c]) ++ rest by simp, show x.length + 1 = (x ++ [c]).length by simp, List.drop_left, ih rest (by omega)]
theorem qZz {c : UInt8} {s : Str} : jSh s [c] = jH2 c s := by
 unfold jSh
 rw [Lib.splitB_data]
 have hc : Lib.countB (bA s) (bA [c]) = s.count c := by
  show Lib.count s [c] = _
  exact Lib.count_one c s
 rw [hc]
 exact qX2 _ s rfl
end Go.KB
namespace Go.KB
set_option linter.unusedVariables false
set_option maxRecDepth 100000
def jS2 : Str := [115, 104, 105, 112]
def qUj : Str := [115, 116, 97, 116, 105, 111, 110]
def jPa : Str := [108, 105, 103, 104, 116]
def jC2 : Str := [105, 116, 101, 109]
def unl (l : List Str) : Str := (l.map (· ++ [10])).flatten
theorem jH4 {x : Str} {l : List Str} : unl (x :: l) = x ++ 10 :: unl l := by simp [unl]
def big (n : Int) : Prop := n.natAbs < 10000000000
theorem qG0 {S O : Type} {n N : Nat} {f : S → Option (S ⊕ O)} {fin : O} (g : Nat → S) (hf : ∀ i : Nat, i < n → f (g i) = some (.inl (g (i + 1)))) (he : f (g n) = some (.inr fin)) (hN : n < N) : jQ2 f N (g 0) = some fin := by
 have key : ∀ k i, i + k = n → ∀ M, k < M → jQ2 f M (g i) = some fin := by
  intro k
  induction k with
  | zero =>
   intro i hi M hM
   obtain ⟨M, rfl⟩ : ∃ m, M = m + 1 := ⟨M - 1, by omega⟩
   obtain rfl : i = n := by omega
   simp only [jQ2, he]
  | succ k ih =>
   intro i hi M hM
   obtain ⟨M, rfl⟩ : ∃ m, M = m + 1 := ⟨M - 1, by omega⟩
   simp only [jQ2, hf i (by omega)]
   exact ih (i + 1) (by omega) M (by omega)
 exact key n 0 (by omega) N (by omega)
theorem qJc {x y : Str} (h : x.length + y.length ≤ 10000000) : qKw x y = some (x ++ y) := by
 unfold qKw
 rw [show Nat.ble (x.length + y.length) lim = true by rw [Nat.ble_eq]; unfold lim; omega]; rfl
structure StOk (t : jJv) : Prop where
 x : big t.X
 w : big t.Width
 l0 : 1 ≤ t.Levels.length
 l1 : t.Levels.length ≤ 30
 h : t.Halves.length + 1 = t.Levels.length
 lv : ∀ n ∈ t.Levels, big n
 hv : ∀ n ∈ t.Halves, big n
structure LoOk (y : jJ0) : Prop where
 n : jYa y.Name = true
 m : big y.Mass
 x : big y.X
 z : big y.Z
 f : big y.Free
structure ShOk (s : jJp) : Prop where
 n : jYa s.Name = true
 l : big s.Length
 s40 : s.Stations.length ≤ 40
 i60 : s.Items.length ≤ 60
 st : ∀ t ∈ s.Stations, StOk t
 li : LoOk s.Light
 it : ∀ x ∈ s.Items, LoOk x
end Go.KB
namespace Go.KB
set_option linter.unusedVariables false
set_option maxRecDepth 100000
theorem qKt {N u : Nat} {s : Str} (hu : u < 18446744073709551616) (hs : s.length ≤ 1000) :
  jWf N ((u : Int), s) = bif decide (u / 10 = 0) then some (.inr (UInt8.ofNat (48 + u % 10) :: s)) else some (.inl (((u / 10 : Nat) : Int), UInt8.ofNat (48 + u % 10) :: s)) := by
 unfold jWf
 have h1 : jS9 (u : Int) 10 = some ((u % 10 : Nat) : Int) := qGc (b := 10) (by decide)
 have h2 : qYf .u64 (u : Int) 10 = some ((u / 10 : Nat) : Int) := quo64 (b := 10) (by decide) hu
 have h3 : IntKind.u8.wrap (IntKind.u64.wrap (48 + ((u % 10 : Nat) : Int))) = ((48 + u % 10 : Nat) : Int) := by
  rw [u64i (n := 48 + ((u % 10 : Nat) : Int)) (by omega) (by omega), IntKind.wrap_u8]; omega
 simp only []
 rw [h1, bS, h3, show strI [((48 + u % 10 : Nat) : Int)] = [UInt8.ofNat (48 + u % 10)] from rfl, qJc (by simp; omega), bS, h2, bS, jW0]
 by_cases h : u / 10 = 0
 ·rw [dT h, dT (by omega)]; rfl
 ·rw [dF h, dF (by omega)]; rfl
theorem qKd {N : Nat} : ∀ (u : Nat) (s : Str) (M : Nat), u < 1000000000000000000 → u < M → s.length + (Lib.decDigits u).length ≤ 1000 → jQ2 (jWf N) M ((u : Int), s) = some (Lib.decDigits u ++ s) := by
  intro u
  induction u using Nat.strongRecOn with
  | _ u ih =>
    intro s M hu hM hs
    obtain ⟨M, rfl⟩ : ∃ m, M = m + 1 := ⟨M - 1, by omega⟩
    rw [jQ2, qKt (by omega) (by omega)]
    by_cases h : u < 10
    · rw [dT (by omega), cnT, Lib.decDigits, dif_pos h, show u % 10 = u by omega]; rfl
    · rw [dF (by omega), cnF]
      simp only []
      have hd : Lib.decDigits u = Lib.decDigits (u / 10) ++ [UInt8.ofNat (48 + u % 10)] := by rw [Lib.decDigits, dif_neg h]
      rw [hd, List.length_append] at hs
      simp only [List.length_cons, List.length_nil] at hs
      rw [ih (u / 10) (by omega) _ M (by omega) (by omega) (by rw [List.length_cons]; omega), hd]
      simp
theorem qVm {N : Nat} {b : Bool} {l : List Int} (hd : Dig l) (hv : val l < 1000000000000000000) (hl : l.length < 100) : ∀ (k M : Nat), k ≤ l.length → k < M →
  jQ2 (jVk N ⟨b, l⟩) M (((val (l.drop k) : Nat) : Int), (k : Int) - 1) = some ((val l : Nat) : Int) := by
 intro k
 induction k with
 | zero =>
  intro M _ hM
  obtain ⟨M, rfl⟩ : ∃ m, M = m + 1 := ⟨M - 1, by omega⟩
  have e : jVk N ⟨b, l⟩ (((val (l.drop 0) : Nat) : Int), ((0 : Nat) : Int) - 1) = some (.inr ((val l : Nat) : Int)) := by
   unfold jVk
   simp only [jMp]
   rw [dF (by omega), cnF, List.drop_zero]
  rw [jQ2, e]
 | succ k ih =>
  intro M hk hM
  obtain ⟨M, rfl⟩ : ∃ m, M = m + 1 := ⟨M - 1, by omega⟩
  have h1 := qGv l k
  have h2 := qKv l k
  have h3 : val (l.drop k) ≤ val l := by
   have : 1 ≤ 65536 ^ k := Nat.pow_pos (by decide)
   have : val (l.drop k) ≤ 65536 ^ k * val (l.drop k) := Nat.le_mul_of_pos_left _ this
   omega
  have e : jVk N ⟨b, l⟩ (((val (l.drop (k + 1)) : Nat) : Int), ((k + 1 : Nat) : Int) - 1) = some (.inl (((val (l.drop k) : Nat) : Int), (k : Int) - 1)) := by
   unfold jVk
   simp only [jMp]
   rw [show ((k + 1 : Nat) : Int) - 1 = (k : Int) by omega, dT (by omega), cnT, qYp (by omega), bS, idx_dg hd (by omega), bS, u64n (n := ldg l k) (by omega), jPe (by omega) (by omega), show (((65536 * val (l.drop (k + 1)) : Nat) : Int) + ((ldg l k : Nat) : Int)) = ((val (l.drop k) : Nat) : Int) by omega, u64n (by omega)]
  rw [jQ2, e]
  exact ih M (by omega) (by omega)
theorem qXr {N n : Nat} {b : Bool} (h : n < 1000000000000000000) (hN : 2 ^ 64 ≤ N) : jYt N ⟨b, limbs n⟩ = some (Lib.decDigits n) := by
 have hl : (limbs n).length ≤ 4 := qYc (by omega)
 have h1 := qVm (N := N) (b := b) (jNj n) (by rw [jSf]; exact h) (by omega) (limbs n).length N (Nat.le_refl _) (by omega)
 rw [List.drop_length, jSf] at h1
 have hz : ((val [] : Nat) : Int) = 0 := rfl
 rw [hz] at h1
 have h2 := qKd (N := N) n [] N h (by omega) (by have := jCk 17 n (by omega); simp; omega)
 unfold jYt
 simp only []
 rw [jPe (by omega) (by omega), h1, bS, h2, bS, List.append_nil]
theorem jTe {N : Nat} {n : Int} (h : big n) (hN : 2 ^ 64 ≤ N) : jYp N n = some (Lib.itoa n) := by
  unfold big at h
  unfold jYp
  have e : jUb N n = some ⟨decide (n < 0), limbs n.natAbs⟩ := Z_I (by omega) (by omega) hN
  rw [e, jXx, bS, bS, qXr (by omega) hN, bS, bS]
  by_cases hn : n < 0
  · have := jCk 9 n.natAbs (by omega)
    rw [dT hn, cnT, qJc (by simp; omega), bS, jNk hn]; rfl
  · rw [dF hn, cnF, jRd (by omega), show n.toNat = n.natAbs by omega]
end Go.KB
namespace Go.KB
set_option linter.unusedVariables false
set_option maxRecDepth 100000
theorem qUv {α : Type} {l : List α} {a b : Nat} (h : a ≤ b) (hb : b ≤ l.length) : slc l (a : Int) (b : Int) = some ((l.take b).drop a) := by
 unfold slc
 rw [dT (by omega), dT (by omega), dT (by omega)]; simp
theorem jFg {α : Type} {l : List α} {a : Nat} (h : a ≤ l.length) : slc l (a : Int) (l.length : Int) = some (l.drop a) := by
 rw [qUv h (Nat.le_refl _), List.take_length]
theorem qY7 {N : Nat} {w : Str} : jWu N w ([45] : Str) = some (mag w) := by
  unfold jWu jWq jWb
  rw [show List.length ([45] : Str) = 1 from rfl, jMp]
  cases w with
  | nil => rfl
  | cons c r =>
    have e1 : slc (c :: r) 0 ((1 : Nat) : Int) = some [c] := by
      have := qUv (l := c :: r) (a := 0) (b := 1) (by omega) (by simp)
      exact this
    have e2 : slc (c :: r) ((1 : Nat) : Int) ((c :: r).length : Int) = some r := jFg (l := c :: r) (a := 1) (by simp)
    rw [dT (by simp only [List.length_cons]; omega), cnT, e1, bS, bS, Bool.true_and, jWc, e2]
    by_cases h : c = 45
    · rw [dT (by rw [h]), cnT, bS, bS]
      show some r = some (if c = 45 then r else c :: r)
      rw [if_pos h]
    · rw [dF (by simpa using h), cnF, bS]
      show some (c :: r) = some (if c = 45 then r else c :: r)
      rw [if_neg h]
theorem number_eq {N : Nat} {w : Str} (hw : w.length ≤ 100000) : ∃ v, jUc N w = some (v, (jMd w).isSome) ∧ ∀ n, jMd w = some n → v = n := by
  unfold jUc
  have e : jG0 N w = some (match Lib.atoiAll w with | Lib.NumEnd.ok v => (v, false) | Lib.NumEnd.range => (Lib.atoiSat w, true) | _ => (0, true)) := by
    unfold jG0 qKr
    rw [show Nat.ble w.length 281474976710656 = true by rw [Nat.ble_eq]; omega, cnT]; rfl
  rw [e, bS]
  have hp : jMd w = match Lib.atoiAll w with | .ok n => if Lib.itoa n = w ∧ (mag w).length ≤ 10 then some n else none | _ => none := rfl
  rcases ha : Lib.atoiAll w with v | _ | _
  rotate_left
  · rw [ha] at hp
    exact ⟨0, by rw [hp]; rfl, fun n h => by rw [hp] at h; cases h⟩
  · rw [ha] at hp
    exact ⟨Lib.atoiSat w, by rw [hp]; rfl, fun n h => by rw [hp] at h; cases h⟩
  · rw [ha] at hp
    have hin := qU7 ha
    have e2 : jGe N v = some (Lib.itoa v) := by
      unfold jGe qYa inI
      rw [dT hin.1, dT hin.2]; rfl
    simp only [] at hp ⊢
    rw [Bool.not_false, cnT, qY7, bS, Bool.true_and, jM0, e2]
    by_cases h10 : (mag w).length ≤ 10
    · rw [dT (show ((mag w).length : Int) ≤ 10 by omega), cnT, bS, Bool.true_and, jWc]
      by_cases hi : Lib.itoa v = w
      · rw [if_pos ⟨hi, h10⟩] at hp
        exact ⟨v, by rw [hp, dT hi]; rfl, fun n h => by rw [hp] at h; exact Option.some.inj h⟩
      · rw [if_neg (fun h => hi h.1)] at hp
        exact ⟨v, by rw [hp, dF hi]; rfl, fun n h => by rw [hp] at h; cases h⟩
    · rw [if_neg (fun h => h10 h.2)] at hp
      exact ⟨v, by rw [hp, dF (show ¬ ((mag w).length : Int) ≤ 10 by omega)]; rfl, fun n h => by rw [hp] at h; cases h⟩
def jF9 : List Str → Option (List Int)
 | [] => some []
 | w :: r => match jMd w with | none => none | some n => (jF9 r).map (n :: ·)
theorem jL3 {w : Str} {r : List Str} {n : Int} (h : jMd w = some n) : jF9 (w :: r) = (jF9 r).map (n :: ·) := by rw [jF9, h]
theorem jNx {w : Str} {r : List Str} (h : jMd w = none) : jF9 (w :: r) = none := by rw [jF9, h]
def qYn : jJn := ⟨[], [], []⟩
theorem qVy {N : Nat} {A : jJn × List Str × jJn} (hl : A.2.1.length ≤ 100000) (hw : ∀ w ∈ A.2.1, w.length ≤ 100000) : ∀ (k i : Nat) (z ln : jJn) (M : Nat), i + k = A.2.1.length → k < M → ln.numbers.length + k ≤ 1000000 →
  jQ2 (jZc N A) M (z, ln, (i : Int)) = some (match jF9 (A.2.1.drop i) with | none => Sum.inr (qYn, false) | some l => Sum.inl (z, { ln with numbers := ln.numbers ++ l })) := by
 intro k
 induction k with
 | zero =>
  intro i z ln M hi hM _
  obtain ⟨M, rfl⟩ : ∃ m, M = m + 1 := ⟨M - 1, by omega⟩
  have e : jZc N A (z, ln, (i : Int)) = some (.inr (Sum.inl (z, ln))) := by
   unfold jZc
   simp only [jXx]
   rw [dF (by omega), cnF]
  rw [jQ2, e, List.drop_of_length_le (by omega)]
  simp [jF9]
 | succ k ih =>
  intro i z ln M hi hM ha
  obtain ⟨M, rfl⟩ : ∃ m, M = m + 1 := ⟨M - 1, by omega⟩
  have hlt : i < A.2.1.length := by omega
  obtain ⟨v, hv, hn⟩ := number_eq (N := N) (hw _ (List.getElem_mem hlt))
  rw [List.drop_eq_getElem_cons hlt]
  cases hp : jMd A.2.1[i] with
  | none =>
   rw [hp] at hv
   have e : jZc N A (z, ln, (i : Int)) = some (.inr (Sum.inr (qYn, false))) := by
    unfold jZc
    simp only [jXx]
    rw [dT (by omega), cnT, jKu hlt, bS, hv, bS]; rfl
   rw [jQ2, e, jNx hp]
  | some n =>
   rw [hp] at hv
   obtain rfl := hn n hp
   have e : jZc N A (z, ln, (i : Int)) = some (.inl (z, { ln with numbers := ln.numbers ++ [v] }, ((i + 1 : Nat) : Int))) := by
    unfold jZc
    simp only [jXx]
    rw [dT (by omega), cnT, jKu hlt, bS, hv, bS]
    simp only [Option.isSome_some, Bool.not_true, cnF]
    rw [jDf (by simp; unfold lim; omega), bS, jN4 (by omega)]
   rw [jQ2, e]
   simp only []
   rw [ih (i + 1) z _ M (by omega) (by omega) (by simp; omega), jL3 hp]
   cases jF9 (A.2.1.drop (i + 1)) with
   | none => rfl
   | some l => simp
def jNw (x : Str) (named : Bool) : Option jJn :=
 match jH2 32 x with
 | [] => none
 | w :: r => bif named then (match r with | [] => none | nm :: q => if nm = [] then none else (jF9 q).map fun l => (⟨w, nm, l⟩ : jJn)) else (jF9 r).map fun l => (⟨w, [], l⟩ : jJn)
theorem jD1 {c : UInt8} : ∀ (s : Str), (jH2 c s).length ≤ s.length + 1 ∧ ∀ w ∈ jH2 c s, w.length ≤ s.length := by
  intro s
  induction s with
  | nil => exact ⟨by simp [jH2], fun w hw => by simp [jH2] at hw; rw [hw]; simp⟩
  | cons b r ih =>
    rw [jH2]
    split
    · refine ⟨by simp; omega, fun w hw => ?_⟩
      rcases List.mem_cons.1 hw with rfl | hw
      · simp
      · have := ih.2 w hw; simp; omega
    · cases h : jH2 c r with
      | nil => exact absurd h (jT3 r)
      | cons x l =>
        rw [h] at ih
        refine ⟨by simp at ih ⊢; omega, fun w hw => ?_⟩
        rcases List.mem_cons.1 hw with rfl | hw
        · have := ih.2 x List.mem_cons_self; simp; omega
        · have := ih.2 w (List.mem_cons_of_mem _ hw); simp; omega
def rdO (o : Option jJn) : jJn × Bool := match o with | some l => (l, true) | none => (qYn, false)
theorem jC5 {N : Nat} {z ln : jJn} {q : List Str} (hl : q.length ≤ 100000) (hw : ∀ w ∈ q, w.length ≤ 100000) (hN : 2 ^ 64 ≤ N) (hn : ln.numbers = []) :
  ((jQ2 (jZc N (z, q, ln)) N (z, ln, 0)).bind fun o19 => Sum.elim (fun l21 => some (l21.2, true)) (fun r22 => some (r22.1, r22.2)) o19) = some (rdO ((jF9 q).map fun l => (⟨ln.word, ln.name, l⟩ : jJn))) := by
 have := qVy (N := N) (A := (z, q, ln)) hl hw q.length 0 z ln N (by simp) (by omega) (by rw [hn]; simp; omega)
 rw [List.drop_zero] at this
 rw [show jQ2 (jZc N (z, q, ln)) N (z, ln, 0) = _ from this, bS]
 show (Sum.elim _ _ (match jF9 q with | none => Sum.inr (qYn, false) | some l => Sum.inl (z, { ln with numbers := ln.numbers ++ l })) : Option (jJn × Bool)) = _
 cases jF9 q with
 | none => rfl
 | some l => rw [hn]; rfl
theorem qJ8 {N : Nat} {x : Str} {named : Bool} (hx : x.length ≤ 60000) (hN : 2 ^ 64 ≤ N) : jK9 N x named = some (rdO (jNw x named)) := by
 obtain ⟨k1, k2⟩ := jD1 (c := 32) x
 have es : jUf N x [32] = some (jH2 32 x) := by
  unfold jUf qXj
  rw [show Nat.blt x.length 4294967281 = true by rw [Nat.blt_eq]; omega, show Nat.ble 1 ([32] : Str).length = true by rfl, qZz]
  rfl
 unfold jK9
 rw [es, bS]
 unfold jNw
 cases h : jH2 32 x with
 | nil => exact absurd h (jT3 x)
 | cons w r =>
  rw [h] at k1 k2
  have e0 : idx (w :: r) 0 = some w := rfl
  have e1 : slc (w :: r) 1 ((w :: r).length : Int) = some r := jFg (l := w :: r) (a := 1) (by simp)
  rw [e0, bS, e1, bS]
  cases named with
  | false =>
   simp only [cnF, bS, Sum.elim_inl]
   exact jC5 (by simp at k1; omega) (fun y hy => by have := k2 y (List.mem_cons_of_mem _ hy); omega) hN rfl
  | true =>
   simp only [cnT]
   cases r with
   | nil => rfl
   | cons nm q =>
    have f0 : idx (nm :: q) 0 = some nm := rfl
    have f1 : slc (nm :: q) 1 ((nm :: q).length : Int) = some q := jFg (l := nm :: q) (a := 1) (by simp)
    rw [jW0, dF (show ¬ ((nm :: q).length : Int) = 0 by simp only [List.length_cons]; omega), Bool.not_false, cnT, f0, bS, Bool.false_or, jWc]
    show _ = some (rdO (if nm = [] then none else (jF9 q).map fun l => (⟨w, nm, l⟩ : jJn)))
    by_cases hn : nm = []
    ·rw [dT hn, cnT, bS, if_pos hn]; rfl
    ·rw [dF hn, cnF, bS, f1, bS, bS, Sum.elim_inl, if_neg hn]
     exact jC5 (by simp at k1; omega) (fun y hy => by have := k2 y (List.mem_cons_of_mem _ (List.mem_cons_of_mem _ hy)); omega) hN rfl
def zLoad : jJ0 := ⟨[], 0, 0, 0, 0⟩
def jCd (x w : Str) : Option jJ0 := match jNw x true with
 | some l => if l.word = w then (match l.numbers with | [a, b, c, d] => some ⟨l.name, a, b, c, d⟩ | _ => none) else none
 | none => none
theorem qVj {N : Nat} {x w : Str} (hx : x.length ≤ 60000) (hN : 2 ^ 64 ≤ N) : jGq N x w = some (match jCd x w with | some y => (y, true) | none => (zLoad, false)) := by
 unfold jGq jCd
 rw [qJ8 hx hN, bS]
 cases jNw x true with
 | none => rfl
 | some l =>
  obtain ⟨lw, nm, ns⟩ := l
  simp only [rdO, Bool.not_true, Bool.false_or]
  rw [jFv, jYu]
  by_cases hw : lw = w
  ·rw [dT hw, Bool.not_true, Bool.false_or, if_pos hw]
   match ns with
   | [] => rfl
   | [a] => rfl
   | [a, b] => rfl
   | [a, b, c] => rfl
   | [a, b, c, d] => rfl
   | a :: b :: c :: d :: e :: r =>
    rw [dF (show ¬ ((a :: b :: c :: d :: e :: r).length : Int) = 4 by simp only [List.length_cons]; omega)]; rfl
  ·rw [dF hw, if_neg hw]; rfl
def dei : List Int → List Int × List Int
 | [] => ([], [])
 | [a] => ([a], [])
 | a :: b :: r => (a :: (dei r).1, b :: (dei r).2)
theorem qYs {N : Nat} {l : List Int} (hl : l.length ≤ 100000) : ∀ (k i : Nat) (X W : Int) (L Hh : List Int) (M : Nat), 2 * i + k = l.length → k < M → L.length + k ≤ 1000000 → Hh.length + k ≤ 1000000 →
    jQ2 (jXn N l) M ((⟨X, W, L, Hh⟩ : jJv), ((2 * i : Nat) : Int)) = some ⟨X, W, L ++ (dei (l.drop (2 * i))).1, Hh ++ (dei (l.drop (2 * i))).2⟩ := by
  intro k
  induction k using Nat.strongRecOn with
  | _ k ih =>
    intro i X W L Hh M hi hM hL hH
    obtain ⟨M, rfl⟩ : ∃ m, M = m + 1 := ⟨M - 1, by omega⟩
    have r0 : jS9 ((2 * i : Nat) : Int) 2 = some 0 := (qGc (a := 2 * i) (b := 2) (by decide)).trans (congrArg some (by omega))
    have r1 : jS9 ((2 * i + 1 : Nat) : Int) 2 = some 1 := (qGc (a := 2 * i + 1) (b := 2) (by decide)).trans (congrArg some (by omega))
    by_cases h0 : k = 0
    · have e : jXn N l ((⟨X, W, L, Hh⟩ : jJv), ((2 * i : Nat) : Int)) = some (.inr ⟨X, W, L, Hh⟩) := by
        unfold jXn
        simp only [jXx]
        rw [dF (by omega), cnF]
      rw [jQ2, e, List.drop_of_length_le (by omega)]
      simp [dei]
    · have hlt : 2 * i < l.length := by omega
      have e : jXn N l ((⟨X, W, L, Hh⟩ : jJv), ((2 * i : Nat) : Int)) = some (.inl (⟨X, W, L ++ [l[2 * i]], Hh⟩, ((2 * i + 1 : Nat) : Int))) := by
        unfold jXn
        simp only [jXx, jW0]
        rw [dT (by omega), cnT, jKu hlt, bS, r0, bS, dT rfl, cnT, jDf (by simp; unfold lim; omega), bS, jN4 (by omega)]
      rw [jQ2, e]
      simp only []
      by_cases h1 : k = 1
      · obtain ⟨M, rfl⟩ : ∃ m, M = m + 1 := ⟨M - 1, by omega⟩
        have e2 : jXn N l ((⟨X, W, L ++ [l[2 * i]], Hh⟩ : jJv), ((2 * i + 1 : Nat) : Int)) = some (.inr ⟨X, W, L ++ [l[2 * i]], Hh⟩) := by
          unfold jXn
          simp only [jXx]
          rw [dF (by omega), cnF]
        rw [jQ2, e2, List.drop_eq_getElem_cons hlt, List.drop_of_length_le (show l.length ≤ 2 * i + 1 by omega)]
        simp [dei]
      · obtain ⟨M, rfl⟩ : ∃ m, M = m + 1 := ⟨M - 1, by omega⟩
        have hlt2 : 2 * i + 1 < l.length := by omega
        have e2 : jXn N l ((⟨X, W, L ++ [l[2 * i]], Hh⟩ : jJv), ((2 * i + 1 : Nat) : Int)) = some (.inl (⟨X, W, L ++ [l[2 * i]], Hh ++ [l[2 * i + 1]]⟩, ((2 * (i + 1) : Nat) : Int))) := by
          unfold jXn
          simp only [jXx, jW0]
          rw [dT (by omega), cnT, jKu hlt2, bS, r1, bS, dF (by decide), cnF, jDf (by simp; unfold lim; omega), bS, jN4 (by omega)]
          rfl
        rw [jQ2, e2]
        simp only []
        rw [ih (k - 2) (by omega) (i + 1) X W _ _ M (by omega) (by omega) (by simp; omega) (by simp; omega), List.drop_eq_getElem_cons hlt, List.drop_eq_getElem_cons hlt2, dei, show 2 * i + 1 + 1 = 2 * (i + 1) by omega]
        simp
def zSta : jJv := ⟨0, 0, [], []⟩
def qK1 (l : List Int) : Option jJv := match l with
 | a :: b :: c :: r => if l.length % 2 = 1 then some ⟨a, b, (dei (c :: r)).1, (dei (c :: r)).2⟩ else none
 | _ => none
def qY0 (x : Str) : Option jJv := match jNw x false with
 | some l => if l.word = qUj then qK1 l.numbers else none
 | none => none
theorem jL6 : ∀ {l : List Str} {r : List Int}, jF9 l = some r → r.length = l.length := by
 intro l
 induction l with
 | nil => intro r h; rw [jF9] at h; cases h; rfl
 | cons w l ih =>
  intro r h
  cases hp : jMd w with
  | none => rw [jNx hp] at h; cases h
  | some n =>
   rw [jL3 hp] at h
   cases hq : jF9 l with
   | none => rw [hq] at h; cases h
   | some q => rw [hq] at h; cases h; simp [ih hq]
theorem jTu {x : Str} {b : Bool} {l : jJn} (h : jNw x b = some l) : l.numbers.length ≤ x.length + 1 := by
 have k := (jD1 (c := 32) x).1
 unfold jNw at h
 cases hs : jH2 32 x with
 | nil => rw [hs] at h; cases h
 | cons w r =>
  rw [hs] at h k
  simp only [] at h
  cases b with
  | false =>
   rw [cnF] at h
   cases hq : jF9 r with
   | none => rw [hq] at h; cases h
   | some q => rw [hq] at h; cases h; have := jL6 hq; simp at k ⊢; omega
  | true =>
   rw [cnT] at h
   cases r with
   | nil => cases h
   | cons nm q =>
    simp only [] at h
    split at h
    ·cases h
    ·cases hq : jF9 q with
     | none => rw [hq] at h; cases h
     | some q => rw [hq] at h; cases h; have := jL6 hq; simp at k ⊢; omega
theorem qX6 {N : Nat} {x : Str} (hx : x.length ≤ 60000) (hN : 2 ^ 64 ≤ N) : jKl N x = some (match qY0 x with | some y => (y, true) | none => (zSta, false)) := by
  unfold jKl qY0
  rw [qJ8 hx hN, bS]
  cases hr : jNw x false with
  | none => rfl
  | some l =>
    have hnl := jTu hr
    obtain ⟨lw, nm, ns⟩ := l
    simp only [rdO, Bool.not_true, Bool.false_or] at hnl ⊢
    rw [jFv, show ([115, 116, 97, 116, 105, 111, 110] : Str) = qUj from rfl]
    by_cases hw : lw = qUj
    · have hrem : jS9 (ns.length : Int) 2 = some ((ns.length % 2 : Nat) : Int) := qGc (b := 2) (by decide)
      rw [dT hw, Bool.not_true, Bool.not_false, cnT, if_pos hw, hrem, bS, jW0, jXx, Bool.false_or]
      match ns, hnl with
      | [], _ => rfl
      | [a], _ => rfl
      | [a, b], _ => rw [dT (show ((([a, b] : List Int).length % 2 : Nat) : Int) = 0 by simp), Bool.true_or, cnT]; rfl
      | a :: b :: c :: r, hnl =>
        have hlen : (a :: b :: c :: r).length = r.length + 3 := rfl
        rw [show qK1 (a :: b :: c :: r) = if (a :: b :: c :: r).length % 2 = 1 then some ⟨a, b, (dei (c :: r)).1, (dei (c :: r)).2⟩ else none from rfl]
        by_cases h2 : (a :: b :: c :: r).length % 2 = 1
        · rw [if_pos h2, dF (show ¬ (((a :: b :: c :: r).length % 2 : Nat) : Int) = 0 by omega), dF (show ¬ ((a :: b :: c :: r).length : Int) < 3 by omega), Bool.or_self, cnF]
          have e0 : idx (a :: b :: c :: r) 0 = some a := rfl
          have e1 : idx (a :: b :: c :: r) 1 = some b := rfl
          have e2 : slc (a :: b :: c :: r) 2 ((a :: b :: c :: r).length : Int) = some (c :: r) := jFg (l := a :: b :: c :: r) (a := 2) (by simp)
          rw [e0, bS, e1, bS, e2, bS]
          have hd := qYs (N := N) (l := c :: r) (by simp at hnl ⊢; omega) (c :: r).length 0 a b [] [] N (by simp) (by simp at hnl ⊢; omega) (by simp at hnl ⊢; omega) (by simp at hnl ⊢; omega)
          rw [Nat.mul_zero, List.drop_zero, List.nil_append, List.nil_append] at hd
          rw [show jQ2 (jXn N (c :: r)) N ((⟨a, b, [], []⟩ : jJv), 0) = _ from hd, bS]
        · rw [if_neg h2, dT (show (((a :: b :: c :: r).length % 2 : Nat) : Int) = 0 by omega), Bool.true_or, cnT]; rfl
    · rw [dF hw, if_neg hw]; rfl
def jTk (g : jJp) (x : Str) (st : Int) : Option (jJp × Int) :=
 if st = 0 then (match jNw x true with
  | some l => if l.word = jS2 then (match l.numbers with | [n] => some ({ g with Name := l.name, Length := n }, 1) | _ => none) else none
  | none => none)
 else if st = 1 then (match jCd x jPa with
  | some y => some ({ g with Light := y }, 2)
  | none => (qY0 x).map fun t => ({ g with Stations := g.Stations ++ [t] }, 1))
 else (jCd x jC2).map fun y => ({ g with Items := g.Items ++ [y] }, 2)
theorem add_eq {N : Nat} {g : jJp} {x : Str} {st : Int} (hx : x.length ≤ 60000) (h1 : g.Stations.length ≤ 1000000) (h2 : g.Items.length ≤ 1000000) (hN : 2 ^ 64 ≤ N) :
    (∀ r, jTk g x st = some r → jKj N g x st = some (r.1, r.2, true)) ∧ (jTk g x st = none → ∃ g' k, jKj N g x st = some (g', k, false)) := by
  unfold jKj jTk
  rw [jW0, jW0]
  by_cases s0 : st = 0
  · rw [dT s0, cnT, if_pos s0, qJ8 hx hN, bS]
    cases jNw x true with
    | none => exact ⟨fun r h => (by cases h), fun _ => ⟨g, 0, rfl⟩⟩
    | some l =>
      obtain ⟨lw, nm, ns⟩ := l
      simp only [rdO, Bool.not_true, Bool.false_or]
      rw [jFv, jYu, show ([115, 104, 105, 112] : Str) = jS2 from rfl]
      by_cases hw : lw = jS2
      · rw [dT hw, Bool.not_true, Bool.false_or, if_pos hw]
        match ns with
        | [] => exact ⟨fun r h => (by cases h), fun _ => ⟨g, 0, rfl⟩⟩
        | [n] => exact ⟨fun r h => by cases h; rfl, fun h => by cases h⟩
        | a :: b :: r =>
          rw [dF (show ¬ ((a :: b :: r).length : Int) = 1 by simp only [List.length_cons]; omega)]
          exact ⟨fun r h => (by cases h), fun _ => ⟨g, 0, rfl⟩⟩
      · rw [dF hw, if_neg hw]
        exact ⟨fun r h => (by cases h), fun _ => ⟨g, 0, rfl⟩⟩
  · rw [dF s0, cnF, if_neg s0]
    by_cases s1 : st = 1
    · rw [dT s1, cnT, if_pos s1, show ([108, 105, 103, 104, 116] : Str) = jPa from rfl, qVj hx hN, bS]
      cases jCd x jPa with
      | some y => exact ⟨fun r h => by cases h; rfl, fun h => by cases h⟩
      | none =>
        simp only [cnF]
        rw [qX6 hx hN, bS, jDf (by simp; unfold lim; omega), bS]
        cases qY0 x with
        | none => exact ⟨fun r h => (by cases h), fun _ => ⟨_, _, rfl⟩⟩
        | some t => exact ⟨fun r h => by cases h; rfl, fun h => by cases h⟩
    · rw [dF s1, cnF, if_neg s1, show ([105, 116, 101, 109] : Str) = jC2 from rfl, qVj hx hN, bS, jDf (by simp; unfold lim; omega), bS]
      cases jCd x jC2 with
      | none => exact ⟨fun r h => (by cases h), fun _ => ⟨_, _, rfl⟩⟩
      | some y => exact ⟨fun r h => by cases h; rfl, fun h => by cases h⟩
end Go.KB
namespace Go.KB
set_option linter.unusedVariables false
set_option maxRecDepth 100000
theorem jAj {a b n : Int} (h : inR a b n = true) : a ≤ n ∧ n ≤ b := by unfold inR at h; simpa using h
theorem StOk.of {l : List jJv} {i : Nat} (h : jU7 l i = 0) : StOk l[i]! := by
 have key : jYb l[i]! = 0 ∧ jYq l[i]! = 0 := by
  unfold jU7 jFd at h
  split at h
  ·rename_i hp
   refine ⟨hp, ?_⟩
   split at h
   ·exact h
   ·split at h
    ·exact h
    ·rename_i hn; exact absurd h hn
  ·rename_i hp; exact absurd h hp
 have p := jNa key.1
 have h2 := key.2
 unfold jYq at h2
 split at h2
 ·cases h2
 ·rename_i hn
  split at h2
  ·rename_i hl
   refine ⟨by unfold big; omega, by unfold big; omega, by omega, by omega, by omega, fun n hm => ?_, fun n hm => ?_⟩
   ·obtain ⟨j, hj, rfl⟩ := List.mem_iff_getElem.1 hm
    have := jUy hl j (by omega) (by omega)
    unfold jNu at this
    split at this
    ·rename_i h4
     rw [qYm hj] at h4
     have := jAj h4
     unfold big; omega
    ·cases this
   ·obtain ⟨j, hj, rfl⟩ := List.mem_iff_getElem.1 hm
    have := jUy h2 j (by omega) (by omega)
    unfold qZt at this
    split at this
    ·rename_i h4
     rw [qYm hj] at h4
     have := jAj h4
     unfold big; omega
    ·cases this
  ·rename_i hl; exact absurd h2 hl
theorem LoOk.of {x : jJ0} {least : Int} (h0 : 0 ≤ least) (hn : jYa x.Name = true) (h : jDr x least = 0) : LoOk x := by
 unfold jDr at h
 split at h
 ·rename_i hp
  simp only [Bool.and_eq_true] at hp
  obtain ⟨⟨⟨h1, h2⟩, h3⟩, h4⟩ := hp
  have h1 := jAj h1
  have h2 := jAj h2
  have h3 := jAj h3
  have h4 := jAj h4
  exact ⟨hn, by unfold big; omega, by unfold big; omega, by unfold big; omega, by unfold big; omega⟩
 ·cases h
theorem ShOk.of {s : jJp} (h : jSg s = 0) : ShOk s := by
 unfold jSg at h
 split at h
 ·rename_i hn
  split at h
  ·rename_i hl
   rw [Bool.and_eq_true] at hl
   have h1 := jAj hl.1
   have h2 := jAj hl.2
   split at h
   ·rename_i hz
    unfold jAk at h
    split at h
    ·rename_i hn2
     split at h
     ·rename_i hm
      split at h
      ·cases h
      ·rename_i h60
       refine ⟨hn, by unfold big; omega, by omega, by omega, fun t ht => ?_, LoOk.of (by decide) hn2 hm, fun x hx => ?_⟩
       ·obtain ⟨j, hj, rfl⟩ := List.mem_iff_getElem.1 ht
        have := StOk.of (jUy hz j (by omega) (by omega))
        rwa [qYm hj] at this
       ·obtain ⟨j, hj, rfl⟩ := List.mem_iff_getElem.1 hx
        have := jUy h j (by omega) (by omega)
        unfold jCn at this
        split at this
        ·rename_i hn3
         split at this
         ·cases this
         ·rw [qYm hj] at this hn3
          exact LoOk.of (by decide) hn3 this
        ·cases this
     ·rename_i hm; exact absurd h hm
    ·cases h
   ·rename_i hz; exact absurd h hz
  ·cases h
 ·cases h
def Steps {S : Type} (Y : S → Str → Option (S × Bool)) : S → List Str → S → Prop
 | s, [], t => s = t
 | s, x :: l, t => ∃ u, Y s (x ++ [10]) = some (u, true) ∧ Steps Y u l t
theorem Steps.app {S : Type} {Y : S → Str → Option (S × Bool)} {t v : S} : ∀ {l : List Str} {s : S} {m : List Str}, Steps Y s l t → Steps Y t m v → Steps Y s (l ++ m) v := by
 intro l
 induction l with
 | nil => intro s m h1 h2; cases h1; exact h2
 | cons x l ih =>
  intro s m h1 h2
  obtain ⟨u, h3, h4⟩ := h1
  exact ⟨u, h3, ih h4 h2⟩
theorem qUh {α : Type} {a b : List α} : slc (a ++ b) ((a.length : Nat) : Int) (((a ++ b).length : Nat) : Int) = some b := by
 rw [jFg (by simp), List.drop_left]
theorem qWf {N : Nat} {x : Str} (hx : x.length ≤ 1000000) : jVx N (x ++ [10]) ([10] : Str) = some (x, true) := by
 have ew : IntKind.i64.wrap ((((x ++ [10]).length : Nat) : Int) - ((([10] : Str).length : Nat) : Int)) = (x.length : Int) := by
  rw [jPe (by simp only [List.length_append, List.length_cons, List.length_nil]; omega) (by simp only [List.length_append, List.length_cons, List.length_nil]; omega)]; simp
 unfold jVx jVm jVe
 rw [jMp, dT (by simp only [List.length_append, List.length_cons, List.length_nil]; omega), cnT, ew, qUh, bS, bS, Bool.true_and, jWc, dT rfl, Bool.not_true, cnF, show (0 : Int) = ((0 : Nat) : Int) from rfl, qUv (by omega) (by simp), bS, bS, List.take_left, List.drop_zero]
def jKz : jJp := ⟨[], 0, [], ⟨[], 0, 0, 0, 0⟩, []⟩
theorem jA3 {N : Nat} {l : List Int} (hl : l.length < 1000000) (hN : 2 ^ 64 ≤ N) : jGn N l l = some true := by
 unfold jGn
 rw [jYu, dT rfl, Bool.not_true, cnF]
 rw [jH8 (f := jYn N l l) (e := fun _ => 0) (n := l.length) (fin := Sum.inl ()) (err := fun z => Sum.inr false) (fun i hi _ => by
  unfold jYn
  simp only [jXx]
  rw [dT (by omega), cnT, qX7 hi, bS, bS, jYu, dT rfl, jN4 (by omega)]; rfl) (fun _ => by
  unfold jYn
  simp only [jXx]
  rw [dF (by omega)]; rfl) (by omega), jLm]
 rfl
theorem qJv (l : jJ0) : jJ0.eqb l l = true := by
 unfold jJ0.eqb; simp
theorem jTa {N : Nat} {s : jJp} (ht : qX4 s) (hN : 2 ^ 64 ≤ N) : jUv N s s = some true := by
 have h1 := ht.st
 have h2 := ht.it
 unfold jUv
 rw [qJv, jFv, dT rfl]
 simp only [jYu, decide_true, Bool.not_true, Bool.or_self, cnF]
 rw [jH8 (f := jYj N s s) (e := fun _ => 0) (n := s.Stations.length) (fin := Sum.inl ()) (err := fun z => Sum.inr false) (fun i hi _ => by
  unfold jYj
  simp only [jXx, jYu]
  rw [dT (by omega), cnT, qX7 hi, bS, bS, dT rfl, dT rfl, jA3 (ht.lv i hi) hN, jA3 (ht.hv i hi) hN, jN4 (by omega)]; rfl) (fun _ => by
  unfold jYj
  simp only [jXx]
  rw [dF (by omega)]; rfl) (by omega), jLm, bS]
 rw [show jF3 (Sum.inl ()) (fun z => Sum.inr false) 0 = (Sum.inl () : Unit ⊕ Bool) from rfl, Sum.elim_inl, jH8 (f := jW8 N s s) (e := fun _ => 0) (n := s.Items.length) (fin := Sum.inl ()) (err := fun z => Sum.inr false) (fun i hi _ => by
  unfold jW8
  simp only [jXx]
  rw [dT (by omega), cnT, qX7 hi, bS, bS, qJv, jN4 (by omega)]; rfl) (fun _ => by
  unfold jW8
  simp only [jXx]
  rw [dF (by omega)]; rfl) (by omega), jLm]
 rfl
end Go.KB
