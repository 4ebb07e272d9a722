/- The text of a ship, as the reference writes it. No condition. -/
import Derived.Test.YtibkeigeifabmaaGreatDoorPHb
namespace Go.KB
set_option linter.unusedVariables false
set_option maxRecDepth 100000
theorem qUy {N u : Nat} {s : Str} (hu : u < 18446744073709551616) (hs : s.length ≤ 1000) :
    jWf N ((u : Int), s) = bif decide (u / 10 = 0) then some (.inr (UInt8.ofNat (48 + u % 10) :: s)) else some (.inl (((u / 10 : Nat) : Int), UInt8.ofNat (48 + u % 10) :: s)) := by
  unfold jWf
  have h1 : qJe (u : Int) 10 = some ((u % 10 : Nat) : Int) := remN (b := 10) (by decide)
  have h2 : qKv .u64 (u : Int) 10 = some ((u / 10 : Nat) : Int) := quo64 (b := 10) (by decide) hu
  have h3 : IntKind.u8.wrap (IntKind.u64.wrap (48 + ((u % 10 : Nat) : Int))) = ((48 + u % 10 : Nat) : Int) := by
    rw [u64i (n := 48 + ((u % 10 : Nat) : Int)) (by omega) (by omega), IntKind.wrap_u8]; omega
  simp only []
  rw [h1, bS, h3, show strI [((48 + u % 10 : Nat) : Int)] = [UInt8.ofNat (48 + u % 10)] from rfl, jHx (by simp; omega), bS, h2, bS, jU3]
  by_cases h : u / 10 = 0
  · rw [dT h, dT (by omega)]; rfl
  · rw [dF h, dF (by omega)]; rfl
theorem qKa {N : Nat} : ∀ (u : Nat) (s : Str) (M : Nat), u < 1000000000000000000 → u < M → s.length + (Lib.decDigits u).length ≤ 1000 → jQ1 (jWf N) M ((u : Int), s) = some (Lib.decDigits u ++ s) := by
  intro u
  induction u using Nat.strongRecOn with
  | _ u ih =>
    intro s M hu hM hs
    obtain ⟨M, rfl⟩ : ∃ m, M = m + 1 := ⟨M - 1, by omega⟩
    rw [jQ1, qUy (by omega) (by omega)]
    by_cases h : u < 10
    · rw [dT (by omega), cnT, Lib.decDigits, dif_pos h, show u % 10 = u by omega]; rfl
    · rw [dF (by omega), cnF]
      simp only []
      have hd : Lib.decDigits u = Lib.decDigits (u / 10) ++ [UInt8.ofNat (48 + u % 10)] := by rw [Lib.decDigits, dif_neg h]
      rw [hd, List.length_append] at hs
      simp only [List.length_cons, List.length_nil] at hs
      rw [ih (u / 10) (by omega) _ M (by omega) (by omega) (by rw [List.length_cons]; omega), hd]
      simp
theorem qWp {N : Nat} {b : Bool} {l : List Int} (hd : Dig l) (hv : val l < 1000000000000000000) (hl : l.length < 100) : ∀ (k M : Nat), k ≤ l.length → k < M →
    jQ1 (jVk N ⟨b, l⟩) M (((val (l.drop k) : Nat) : Int), (k : Int) - 1) = some ((val l : Nat) : Int) := by
  intro k
  induction k with
  | zero =>
    intro M _ hM
    obtain ⟨M, rfl⟩ : ∃ m, M = m + 1 := ⟨M - 1, by omega⟩
    have e : jVk N ⟨b, l⟩ (((val (l.drop 0) : Nat) : Int), ((0 : Nat) : Int) - 1) = some (.inr ((val l : Nat) : Int)) := by
      unfold jVk
      simp only [jR2]
      rw [dF (by omega), cnF, List.drop_zero]
    rw [jQ1, e]
  | succ k ih =>
    intro M hk hM
    obtain ⟨M, rfl⟩ : ∃ m, M = m + 1 := ⟨M - 1, by omega⟩
    have h1 := qH0 l k
    have h2 := qU0 l k
    have h3 : val (l.drop k) ≤ val l := by
      have : 1 ≤ 65536 ^ k := Nat.pow_pos (by decide)
      have : val (l.drop k) ≤ 65536 ^ k * val (l.drop k) := Nat.le_mul_of_pos_left _ this
      omega
    have e : jVk N ⟨b, l⟩ (((val (l.drop (k + 1)) : Nat) : Int), ((k + 1 : Nat) : Int) - 1) = some (.inl (((val (l.drop k) : Nat) : Int), (k : Int) - 1)) := by
      unfold jVk
      simp only [jR2]
      rw [show ((k + 1 : Nat) : Int) - 1 = (k : Int) by omega, dT (by omega), cnT, qKn (by omega), bS, idx_dg hd (by omega), bS, u64n (n := ldg l k) (by omega), qQq (by omega) (by omega), show (((65536 * val (l.drop (k + 1)) : Nat) : Int) + ((ldg l k : Nat) : Int)) = ((val (l.drop k) : Nat) : Int) by omega, u64n (by omega)]
    rw [jQ1, e]
    exact ih M (by omega) (by omega)
theorem qZl {N n : Nat} {b : Bool} (h : n < 1000000000000000000) (hN : 2 ^ 64 ≤ N) : jY3 N ⟨b, limbs n⟩ = some (Lib.decDigits n) := by
  have hl : (limbs n).length ≤ 4 := qKt (by omega)
  have h1 := qWp (N := N) (b := b) (jNb n) (by rw [jSu]; exact h) (by omega) (limbs n).length N (Nat.le_refl _) (by omega)
  rw [List.drop_length, jSu] at h1
  have hz : ((val [] : Nat) : Int) = 0 := rfl
  rw [hz] at h1
  have h2 := qKa (N := N) n [] N h (by omega) (by have := jCn 17 n (by omega); simp; omega)
  unfold jY3
  simp only []
  rw [qQq (by omega) (by omega), h1, bS, h2, bS, List.append_nil]
theorem qZn {N : Nat} {n : Int} (h : big n) (hN : 2 ^ 64 ≤ N) : jK6 N n = some (Lib.itoa n) := by
  unfold big at h
  unfold jK6
  have e : jGj N n = some ⟨decide (n < 0), limbs n.natAbs⟩ := Z_I (by omega) (by omega) hN
  rw [e, jQe, bS, bS, qZl (by omega) hN, bS, bS]
  by_cases hn : n < 0
  · have := jCn 9 n.natAbs (by omega)
    rw [dT hn, cnT, jHx (by simp; omega), bS, jFb hn]; rfl
  · rw [dF hn, cnF, jMw (by omega), show n.toNat = n.natAbs by omega]
theorem qZm {N : Nat} {g : Str} {ns : List Int} (hg : g.length ≤ 10000) (hn : ∀ n ∈ ns, big n) (hl : ns.length ≤ 100) (hN : 2 ^ 64 ≤ N) : jQ1 (jWc N ns) N (g, 0) = some (g ++ jSq ns) := by
  have := jPg (f := jWc N ns) (N := N) (n := ns.length) (fin := g ++ jSq ns) (fun i => (g ++ jSq (ns.take i), (i : Int))) (fun i hi => by
    have h1 := qJm hn i hl
    have h2 := jCs (hn ns[i] (List.getElem_mem hi))
    unfold jWc
    simp only [jQe]
    rw [dT (by omega), cnT, jKa hi, bS, qZn (hn ns[i] (List.getElem_mem hi)) hN, bS, jHx (by simp; omega), bS, jHx (by simp only [List.length_append, List.length_cons, List.length_nil]; omega), bS, jN9 (by omega), jA7 hi]
    simp) (by
    unfold jWc
    simp only [jQe]
    rw [dF (by omega), cnF, List.take_length]) (by omega)
  rw [List.take_zero, show jSq [] = [] from rfl, List.append_nil] at this
  exact this
theorem jPn {N : Nat} {ws : List Str} {ns : List Int} (hw : (Lib.join ws [32]).length ≤ 1000) (hn : ∀ n ∈ ns, big n) (hl : ns.length ≤ 100) (hN : 2 ^ 64 ≤ N) (h : jQ1 (jX4 N ws) N (([] : Str), 0) = some (Lib.join ws [32])) : jWb N ws ns = some (jDk ws ns ++ [10]) := by
  have h1 := jMu hn
  unfold jWb jDk
  rw [h, bS, qZm (by omega) hn hl hN, bS, jHx (by simp only [List.length_append, List.length_cons, List.length_nil]; omega), bS]
theorem rword1 {N : Nat} {a : Str} (ha : a.length ≤ 100) (hN : 2 ^ 64 ≤ N) : jQ1 (jX4 N [a]) N (([] : Str), 0) = some (Lib.join [a] [32]) := by
  obtain ⟨M, rfl⟩ : ∃ M, N = M + 2 := ⟨N - 2, by omega⟩
  have e0 : jX4 (M + 2) [a] (([] : Str), 0) = some (.inl (a, 1)) := by
    unfold jX4
    simp only [jQe, jKp]
    rw [dT (by simp), cnT, dF (by simp), cnF, show idx [a] 0 = some a from rfl, bS, jHx (by simp; omega), bS]; rfl
  have e1 : jX4 (M + 2) [a] (a, 1) = some (.inr a) := rfl
  simp only [jQ1, e0, e1]
  rw [Lib.join_one]
theorem qGj {N : Nat} {a b : Str} (ha : a.length ≤ 100) (hb : b.length ≤ 100) (hN : 2 ^ 64 ≤ N) : jQ1 (jX4 N [a, b]) N (([] : Str), 0) = some (Lib.join [a, b] [32]) := by
  obtain ⟨M, rfl⟩ : ∃ M, N = M + 3 := ⟨N - 3, by omega⟩
  have e0 : jX4 (M + 3) [a, b] (([] : Str), 0) = some (.inl (a, 1)) := by
    unfold jX4
    simp only [jQe, jKp]
    rw [dT (by simp), cnT, dF (by simp), cnF, show idx [a, b] 0 = some a from rfl, bS, jHx (by simp; omega), bS]; rfl
  have e1 : jX4 (M + 3) [a, b] (a, 1) = some (.inl (a ++ [32] ++ b, 2)) := by
    unfold jX4
    simp only [jQe, jKp]
    rw [dT (by simp), cnT, dT (by simp), cnT, jHx (by simp; omega), bS, show idx [a, b] 1 = some b from rfl, bS, jHx (by simp; omega), bS]; rfl
  have e2 : jX4 (M + 3) [a, b] (a ++ [32] ++ b, 2) = some (.inr (a ++ [32] ++ b)) := rfl
  simp only [jQ1, e0, e1, e2]
  rw [jRs]; simp
theorem rst_w {N : Nat} {t : jJv} (h : qVx t) (hN : 2 ^ 64 ≤ N) : jWb N [qQu] (stN t) = some (stL t ++ [10]) := by
  have h2 := h.l1
  have h3 := jCf h
  exact jPn (by decide) (jRl h) (by omega) hN (rword1 (by decide) hN)
theorem rld_w {N : Nat} {w : Str} {x : jJc} (hw : w.length ≤ 5) (h : qQ6 x) (hN : 2 ^ 64 ≤ N) : jWb N [w, x.Name] [x.Mass, x.X, x.Z, x.Free] = some (ldL w x ++ [10]) := by
  have h1 := jPu h.n
  exact jPn (by rw [jRs]; simp only [List.length_append, List.length_cons]; omega) (jC6 h) (by simp) hN (qGj (by omega) (by omega) hN)
theorem qW9 {N : Nat} {s : GShip} (h : jC8 s) (hN : 2 ^ 64 ≤ N) {g : Str} (hg : g.length ≤ 1000) : jQ1 (jWq N s) N (g, 0) = some (g ++ unl (s.Stations.map stL)) := by
  have h40 := h.s40
  have := jPg (f := jWq N s) (N := N) (n := s.Stations.length) (fin := g ++ unl (s.Stations.map stL)) (fun i => (g ++ unl ((s.Stations.take i).map stL), (i : Int))) (fun i hi => by
    have ht := h.st s.Stations[i] (List.getElem_mem hi)
    have h1 := jSm (l := s.Stations.take i) (fun t ht => h.st t (jRf ht)) (by rw [List.length_take]; omega)
    have h2 := ht.l1
    have h4 := qQv ht
    unfold jWq
    simp only [jQe]
    rw [dT (by omega), cnT, jKa hi, bS, qW5 (by omega) hN, bS, show ([([115, 116, 97, 116, 105, 111, 110] : Str)] : List Str) = [qQu] from rfl, rst_w ht hN, bS, jHx (by simp only [List.length_append, List.length_cons, List.length_nil]; omega), bS, jN9 (by omega), List.take_succ_eq_append_getElem hi, List.map_append, jSj, List.map_singleton, jHy, show unl [] = [] from rfl]
    simp) (by
    unfold jWq
    simp only [jQe]
    rw [dF (by omega), cnF, List.take_length]) (by omega)
  rw [List.take_zero, List.map_nil, show unl [] = [] from rfl, List.append_nil] at this
  exact this
theorem qWe {N : Nat} {s : GShip} (h : jC8 s) (hN : 2 ^ 64 ≤ N) {g : Str} (hg : g.length ≤ 50000) : jQ1 (jV9 N (s.Light :: s.Items)) N (g, 0) = some (g ++ unl (jAa s)) := by
  have h60 := h.i60
  have hlen : (s.Light :: s.Items).length = s.Items.length + 1 := rfl
  have := jPg (f := jV9 N (s.Light :: s.Items)) (N := N) (n := (s.Light :: s.Items).length) (fin := g ++ unl (jAa s)) (fun i => (g ++ unl ((jAa s).take i), (i : Int))) (fun i hi => by
    have h1 := qG1 h i
    have hx := qYc h hi
    unfold jV9
    simp only [jQe, jU3]
    rw [dT (by omega), cnT, jKa hi, jN9 (by omega), jAt hi]
    simp only [bS]
    by_cases h0 : i = 0
    · subst h0
      have h4 := jLs (w := jHa) (by decide) hx
      rw [dT (by rfl), cnT, show ([108, 105, 103, 104, 116] : Str) = jHa from rfl, rld_w (by decide) hx hN, bS, show jC3 0 = jHa from rfl, jHx (by simp only [List.length_append, List.length_cons, List.length_nil]; omega), bS]
      simp
    · have h4 := jLs (w := jMh) (by decide) hx
      rw [dF (by omega), cnF, show ([105, 116, 101, 109] : Str) = jMh from rfl, rld_w (by decide) hx hN, bS, show jC3 i = jMh by unfold jC3; rw [if_neg h0], jHx (by simp only [List.length_append, List.length_cons, List.length_nil]; omega), bS]
      simp) (by
    unfold jV9
    simp only [jQe]
    rw [dF (by omega), cnF, List.take_of_length_le (by rw [jCq]; omega)]) (by omega)
  rw [List.take_zero, show unl [] = [] from rfl, List.append_nil] at this
  exact this
theorem qYh {N : Nat} {s : GShip} (h : jC8 s) (hN : 2 ^ 64 ≤ N) : jGy N s = some (qW3 s) := by
  have h1 := jN8 h
  have h2 := jSm h.st h.s40
  have hi := h.i60
  have hn := jPu h.n
  unfold jGy
  rw [show ([115, 104, 105, 112] : Str) = jRu from rfl, jPn (jAm h).1 (jAm h).2 (by simp) hN (qGj (by decide) (by omega) hN), bS, show jDk [jRu, s.Name] [s.Length] = jCu s from rfl, qW9 h hN (by simp only [List.length_append, List.length_cons, List.length_nil]; omega), bS]
  unfold jF1
  rw [jBa (by simp; unfold lim; omega), bS, bS, show [s.Light] ++ s.Items = s.Light :: s.Items from rfl, qWe h hN (by simp only [List.length_append, List.length_cons, List.length_nil]; omega), bS, ← qJ3]
end Go.KB
