/- Plain laws: shear forces and bending moments. No condition. -/
import Derived.Test.YtoiefhkiipolmaaGreatPZe
import Derived.Test.YtoiefhkiipolmaaGreatPZb
import Derived.Test.YtoiefhkiipolmaaGreatPZg
import Derived.Test.YtoiefhkiipolmaaGreatPPut
import Derived.Test.YtoiefhkiipolmaaGreatKSor
namespace Go.KB
set_option linter.unusedVariables false
set_option maxRecDepth 100000
theorem jMl {S O : Type} {n N : Nat} {f : S → Option (S ⊕ O)} (g : Nat → S) (r : O) (h : ∀ i : Nat, i < n → f (g i) = some (.inl (g (i + 1)))) (he : f (g n) = some (.inr r)) (hN : n < N) : jQ7 f N (g 0) = some r := by
  have key : ∀ (k i M : Nat), i + k = n → k < M → jQ7 f M (g i) = some r := by
    intro k
    induction k with
    | zero =>
      intro i M hi hM
      obtain ⟨M, rfl⟩ : ∃ m, M = m + 1 := ⟨M - 1, by omega⟩
      obtain rfl : i = n := by omega
      rw [jQ7, he]
    | succ k ih =>
      intro i M hi hM
      obtain ⟨M, rfl⟩ : ∃ m, M = m + 1 := ⟨M - 1, by omega⟩
      rw [jQ7, h i (by omega)]
      exact ih (i + 1) M (by omega) (by omega)
  exact key n 0 N (by omega) hN
/- maps -/
theorem mgetS {α β : Type} [DecidableEq α] (z : β) (x k : α) (y : β) : ∀ m : List (α × β), jNu z (jFy m x y) k = if k = x then y else jNu z m k
  | [] => by
    by_cases h : k = x
    · subst h; simp [jNu, jFy]
    · simp [jNu, jFy, h]
  | p :: r => by
    by_cases hp : x = p.1
    · subst hp
      by_cases h : k = p.1
      · subst h; simp [jNu, jFy]
      · simp [jNu, jFy, h]
    · by_cases h : k = p.1
      · subst h; simp [jNu, jFy, hp, Ne.symm hp]
      · simp [jNu, jFy, hp, h, mgetS z x k y r]
theorem qXn {α β : Type} [DecidableEq α] (x : α) (y : β) : ∀ m : List (α × β), (jFy m x y).map (·.1) = if x ∈ m.map (·.1) then m.map (·.1) else m.map (·.1) ++ [x]
  | [] => by simp [jFy]
  | q :: r => by
    unfold jFy
    by_cases h : x = q.1
    · rw [dT h, cnT, if_pos (by rw [h]; exact List.mem_cons_self)]; rfl
    · rw [dF h, cnF, List.map_cons, qXn x y r, List.map_cons]
      by_cases h2 : x ∈ r.map (·.1)
      · rw [if_pos h2, if_pos (List.mem_cons_of_mem _ h2)]
      · rw [if_neg h2, if_neg (fun k => by rcases List.mem_cons.1 k with k | k; exact h k; exact h2 k)]; rfl
/- sums -/
theorem qWz (f g : Nat → Rat) : ∀ n, jKh (fun k => f k + g k) n = jKh f n + jKh g n := by
  intro n
  induction n with
  | zero => show (0 : Rat) = 0 + 0; grind
  | succ n ih => show jKh _ n + (f n + g n) = jKh f n + f n + (jKh g n + g n); rw [ih]; grind
theorem qUl (f : Nat → Rat) (c : Rat) : ∀ n, jKh (fun k => f k * c) n = jKh f n * c := by
  intro n
  induction n with
  | zero => show (0 : Rat) = 0 * c; grind
  | succ n ih => show jKh _ n + f n * c = (jKh f n + f n) * c; rw [ih]; grind
theorem qK4 {f : Nat → Rat} : ∀ {n : Nat}, (∀ k, k < n → f k = 0) → jKh f n = 0 := by
  intro n
  induction n with
  | zero => intro _; rfl
  | succ n ih => intro h; show jKh f n + f n = 0; rw [ih fun k hk => h k (by omega), h n (by omega)]; grind
theorem qW1 (f : Nat → Rat) (a : Nat) : ∀ b, jKh f (a + b) = jKh f a + jKh (fun k => f (a + k)) b := by
  intro b
  induction b with
  | zero => show jKh f a = jKh f a + 0; grind
  | succ b ih => show jKh f (a + b) + f (a + b) = jKh f a + (jKh (fun k => f (a + k)) b + f (a + b)); rw [ih]; grind
/- places and forces: stations, then loads -/
section
variable (s : GShip) (p q : Rat) (d : Int)
def evX (k : Nat) : Int := if k < s.Stations.length then s.Stations[k]!.X else (jYr s)[k - s.Stations.length]!.X
def evQ (k : Nat) : Rat := if k < s.Stations.length then kgQ (tV s p q k) d else ((-(ldM s (k - s.Stations.length)) : Int) : Rat)
def evN : Nat := s.Stations.length + (jYr s).length
def shT (z : Int) (k : Nat) : Rat := if evX s k ≤ z then evQ s p q d k else 0
def bmT (z : Int) (k : Nat) : Rat := if evX s k ≤ z then evQ s p q d k * ((z - evX s k : Int) : Rat) else 0
def atT (z : Int) (k : Nat) : Rat := if evX s k = z then evQ s p q d k else 0
def shQ (z : Int) : Rat := jKh (shT s p q d z) (evN s)
def bmQ (z : Int) : Rat := jKh (bmT s p q d z) (evN s)
def mpK : Nat → List (Int × jQv)
  | 0 => []
  | k + 1 => jFy (mpK k) (evX s k) (R (jKh (atT s p q d (evX s k)) (k + 1)))
def jTe (l : List Int) (acc : List Int) : List Int := l.foldl (fun a x => qQ0 x a) acc
def jW8 : List Int := jTe (s.Stations.map (·.X)) (jTe ((jYr s).map (·.X)) [])
end
theorem qV9 : ∀ {l acc : List Int} {z : Int}, z ∈ jTe l acc ↔ z ∈ l ∨ z ∈ acc := by
  intro l
  induction l with
  | nil => intro acc z; simp [jTe]
  | cons x l ih =>
    intro acc z
    rw [show jTe (x :: l) acc = jTe l (qQ0 x acc) from rfl, ih, qVm, List.mem_cons]
    constructor
    · rintro (h | h | h) <;> simp [h]
    · rintro ((h | h) | h) <;> simp [h]
theorem qVv : ∀ {l acc : List Int}, acc.Pairwise (· < ·) → (jTe l acc).Pairwise (· < ·) := by
  intro l
  induction l with
  | nil => intro acc h; exact h
  | cons x l ih => intro acc h; exact ih (qG4 h)
theorem jRa : ∀ {l acc : List Int}, (jTe l acc).length ≤ acc.length + l.length := by
  intro l
  induction l with
  | nil => intro acc; simp [jTe]
  | cons x l ih =>
    intro acc
    have h1 := @ih (qQ0 x acc)
    have h2 := qHc (x := x) (l := acc)
    rw [show jTe (x :: l) acc = jTe l (qQ0 x acc) from rfl, List.length_cons]; omega
theorem qVx {l m acc : List Int} : jTe (l ++ m) acc = jTe m (jTe l acc) := by simp [jTe]
section
variable {s : GShip} {p q : Rat} {d : Int}
theorem jSx {z : Int} : z ∈ jW8 s ↔ ∃ j, j < evN s ∧ evX s j = z := by
  unfold jW8
  rw [qV9, qV9, List.mem_map, List.mem_map]
  constructor
  · rintro (⟨t, ht, rfl⟩ | ⟨t, ht, rfl⟩ | h)
    · obtain ⟨k, hk, rfl⟩ := List.getElem_of_mem ht
      exact ⟨k, by unfold evN; omega, by unfold evX; rw [if_pos hk, qXt hk]⟩
    · obtain ⟨k, hk, rfl⟩ := List.getElem_of_mem ht
      exact ⟨s.Stations.length + k, by unfold evN; omega, by unfold evX; rw [if_neg (by omega), Nat.add_sub_cancel_left, qXt hk]⟩
    · cases h
  · rintro ⟨j, hj, rfl⟩
    unfold evN at hj
    unfold evX
    by_cases h : j < s.Stations.length
    · rw [if_pos h]; exact .inl ⟨_, by rw [qXt h]; exact List.getElem_mem _, rfl⟩
    · rw [if_neg h]; exact .inr (.inl ⟨_, by rw [qXt (by omega)]; exact List.getElem_mem _, rfl⟩)
theorem jMw : (jW8 s).Pairwise (· < ·) := qVv (qVv List.Pairwise.nil)
theorem jRb : (jW8 s).length ≤ evN s := by
  unfold jW8 evN
  have h1 := jRa (l := s.Stations.map (·.X)) (acc := jTe ((jYr s).map (·.X)) [])
  have h2 := jRa (l := (jYr s).map (·.X)) (acc := [])
  rw [List.length_map] at h1 h2
  rw [List.length_nil] at h2
  omega
theorem jAd {l : List Int} (h : l.Pairwise (· < ·)) {i j : Nat} (hij : i < j) (hj : j < l.length) : l[i]! < l[j]! := by
  rw [qXt (by omega), qXt hj]
  exact List.pairwise_iff_getElem.1 h i j (by omega) hj hij
/- from place to place -/
theorem qVt {i k : Nat} (hi : i < (jW8 s).length) (hk : k < evN s) : evX s k ≤ (jW8 s)[i]! ↔ evX s k = (jW8 s)[i]! ∨ (0 < i ∧ evX s k ≤ (jW8 s)[i - 1]!) := by
  obtain ⟨j, hj, hje⟩ := List.getElem_of_mem (jSx.2 ⟨k, hk, rfl⟩)
  rw [← qXt hj] at hje
  constructor
  · intro h
    by_cases hlt : i < j
    · have := jAd (jMw (s := s)) hlt hj; omega
    · by_cases e : i = j
      · subst e; exact .inl hje.symm
      · refine .inr ⟨by omega, ?_⟩
        by_cases e2 : j = i - 1
        · subst e2; omega
        · have := jAd (jMw (s := s)) (i := j) (j := i - 1) (by omega) (by omega); omega
  · rintro (h | ⟨h0, h⟩)
    · omega
    · have := jAd (jMw (s := s)) (i := i - 1) (j := i) (by omega) hi; omega
theorem qHf {i : Nat} (hi : i < (jW8 s).length) (h0 : i = 0) : shQ s p q d (jW8 s)[i]! = 0 + jKh (atT s p q d (jW8 s)[i]!) (evN s) := by
  have : shQ s p q d (jW8 s)[i]! = jKh (atT s p q d (jW8 s)[i]!) (evN s) := by
    unfold shQ
    refine jFu fun k hk => ?_
    have := qVt hi hk
    unfold shT atT
    by_cases h : evX s k = (jW8 s)[i]!
    · rw [if_pos h, if_pos (by omega)]
    · rw [if_neg h, if_neg (fun c => by rcases this.1 c with c | c; exact h c; omega)]
  rw [this]; grind
theorem qBm {i : Nat} (hi : i < (jW8 s).length) (h0 : 0 < i) : shQ s p q d (jW8 s)[i]! = shQ s p q d (jW8 s)[i - 1]! + jKh (atT s p q d (jW8 s)[i]!) (evN s) := by
  have hlt := jAd (jMw (s := s)) (i := i - 1) (j := i) (by omega) hi
  unfold shQ
  rw [← qWz]
  refine jFu fun k hk => ?_
  have := qVt hi hk
  unfold shT atT
  by_cases h : evX s k = (jW8 s)[i]!
  · rw [if_pos h, if_pos (by omega), if_neg (by omega)]; grind
  · rw [if_neg h]
    by_cases h2 : evX s k ≤ (jW8 s)[i - 1]!
    · rw [if_pos h2, if_pos (by omega)]; grind
    · rw [if_neg h2, if_neg (fun c => by rcases this.1 c with c | c; exact h c; exact h2 c.2)]; grind
theorem qGk {i : Nat} (hi : i < (jW8 s).length) (h0 : i = 0) : bmQ s p q d (jW8 s)[i]! = 0 := by
  unfold bmQ
  refine qK4 fun k hk => ?_
  have := qVt hi hk
  unfold bmT
  by_cases h : evX s k ≤ (jW8 s)[i]!
  · rw [if_pos h]
    have he : evX s k = (jW8 s)[i]! := by rcases this.1 h with c | c; exact c; omega
    rw [he, Int.sub_self]
    show evQ s p q d k * 0 = 0
    grind
  · rw [if_neg h]
theorem qDa {i : Nat} (hi : i < (jW8 s).length) (h0 : 0 < i) : bmQ s p q d (jW8 s)[i]! = bmQ s p q d (jW8 s)[i - 1]! + shQ s p q d (jW8 s)[i - 1]! * (((jW8 s)[i]! - (jW8 s)[i - 1]! : Int) : Rat) := by
  have hlt := jAd (jMw (s := s)) (i := i - 1) (j := i) (by omega) hi
  unfold bmQ shQ
  rw [← qUl, ← qWz]
  refine jFu fun k hk => ?_
  have := qVt hi hk
  unfold bmT shT
  by_cases h2 : evX s k ≤ (jW8 s)[i - 1]!
  · rw [if_pos h2, if_pos (by omega), if_pos h2]
    have : (((jW8 s)[i]! - evX s k : Int) : Rat) = (((jW8 s)[i - 1]! - evX s k : Int) : Rat) + (((jW8 s)[i]! - (jW8 s)[i - 1]! : Int) : Rat) := by push_cast; grind
    rw [this]; grind
  · rw [if_neg h2, if_neg h2]
    by_cases h : evX s k ≤ (jW8 s)[i]!
    · have he : evX s k = (jW8 s)[i]! := by rcases this.1 h with c | c; exact c; exact absurd c.2 h2
      rw [if_pos h, he, Int.sub_self]
      show evQ s p q d k * 0 = _
      grind
    · rw [if_neg h]; grind
/- at the last place all forces count -/
theorem qD1 (h : 0 < (jW8 s).length) : shQ s p q d (jW8 s)[(jW8 s).length - 1]! = jKh (evQ s p q d) (evN s) := by
  unfold shQ
  refine jFu fun k hk => ?_
  unfold shT
  obtain ⟨j, hj, hje⟩ := List.getElem_of_mem (jSx.2 ⟨k, hk, rfl⟩)
  rw [← qXt hj] at hje
  rw [if_pos]
  by_cases e : j = (jW8 s).length - 1
  · rw [← e]; omega
  · have := jAd (jMw (s := s)) (i := j) (j := (jW8 s).length - 1) (by omega) (by omega); omega
/- the map -/
theorem qHb : ∀ k, ((mpK s p q d k).map (·.1)).Nodup ∧ ∀ z, z ∈ (mpK s p q d k).map (·.1) ↔ ∃ j, j < k ∧ evX s j = z := by
  intro k
  induction k with
  | zero => exact ⟨List.nodup_nil, fun z => ⟨(fun h => by cases h), fun ⟨j, h, _⟩ => absurd h (Nat.not_lt_zero _)⟩⟩
  | succ k ih =>
    obtain ⟨h1, h2⟩ := ih
    have hk : (mpK s p q d (k + 1)).map (·.1) = if evX s k ∈ (mpK s p q d k).map (·.1) then (mpK s p q d k).map (·.1) else (mpK s p q d k).map (·.1) ++ [evX s k] := qXn _ _ _
    rw [hk]
    by_cases h : evX s k ∈ (mpK s p q d k).map (·.1)
    · rw [if_pos h]
      refine ⟨h1, fun z => ?_⟩
      rw [h2]
      constructor
      · rintro ⟨j, a, b⟩; exact ⟨j, by omega, b⟩
      · rintro ⟨j, a, b⟩
        by_cases e : j = k
        · subst e; rw [← b]; exact (h2 _).1 h
        · exact ⟨j, by omega, b⟩
    · rw [if_neg h]
      refine ⟨List.nodup_append.2 ⟨h1, by simp, fun a ha b hb e => ?_⟩, fun z => ?_⟩
      · rw [List.mem_singleton] at hb; subst hb; subst e; exact h ha
      · rw [List.mem_append, List.mem_singleton, h2]
        constructor
        · rintro (⟨j, a, b⟩ | rfl)
          · exact ⟨j, by omega, b⟩
          · exact ⟨k, by omega, rfl⟩
        · rintro ⟨j, a, b⟩
          by_cases e : j = k
          · subst e; exact .inr b.symm
          · exact .inl ⟨j, by omega, b⟩
theorem qf0 {k : Nat} : Qf k jGe 0 := ⟨(fun _ h => by cases h), (fun _ h => by cases h), Nat.zero_le _, Nat.zero_le _, by show ((0 : Int) : Rat) / ((1 : Int) : Rat) = 0; rw [Rat.div_def]; simp⟩
end
end Go.KB
