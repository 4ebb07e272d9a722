/- The text of a ship, as the program and the reference write it. No condition. -/
import Derived.Test.YtibkeigeifabmaaGreatDoorPHa
import Derived.Test.YtibkeigeifabmaaGreatDoorPZd
import Derived.Test.YtibkeigeifabmaaGreatDoorPZb
namespace Go.KB
set_option linter.unusedVariables false
set_option maxRecDepth 100000

def jSq (l : List Int) : Str := (l.map fun n => (32 : UInt8) :: Lib.itoa n).flatten
def jDk (ws : List Str) (ns : List Int) : Str := Lib.join ws [32] ++ jSq ns
def ilv : List Int → List Int → List Int
  | [], _ => []
  | a :: r, [] => a :: ilv r []
  | a :: r, h :: s => a :: h :: ilv r s
def stN (t : jJv) : List Int := [t.X, t.Width] ++ ilv t.Levels t.Halves
def ldN (x : jJc) : List Int := [x.Mass, x.X, x.Z, x.Free]
def jRu : Str := [115, 104, 105, 112]
def qQu : Str := [115, 116, 97, 116, 105, 111, 110]
def jHa : Str := [108, 105, 103, 104, 116]
def jMh : Str := [105, 116, 101, 109]
def stL (t : jJv) : Str := jDk [qQu] (stN t)
def ldL (w : Str) (x : jJc) : Str := jDk [w, x.Name] (ldN x)
def unl (l : List Str) : Str := (l.map (· ++ [10])).flatten
def jCu (s : GShip) : Str := jDk [jRu, s.Name] [s.Length]
def jN5 (s : GShip) : List Str := jCu s :: (s.Stations.map stL ++ ldL jHa s.Light :: s.Items.map (ldL jMh))
def qW3 (s : GShip) : Str := unl (jN5 s)
theorem jHy {x : Str} {l : List Str} : unl (x :: l) = x ++ 10 :: unl l := by simp [unl]
theorem jSj {l m : List Str} : unl (l ++ m) = unl l ++ unl m := by simp [unl]
theorem qK0 {l m : List Int} : jSq (l ++ m) = jSq l ++ jSq m := by simp [jSq]
def big (n : Int) : Prop := n.natAbs < 10000000000
theorem jMu : ∀ {l : List Int}, (∀ n ∈ l, big n) → (jSq l).length ≤ 12 * l.length := by
  intro l
  induction l with
  | nil => intro _; simp [jSq]
  | cons n l ih =>
    intro h
    have h1 := jCs (h n List.mem_cons_self)
    have h2 := ih fun m hm => h m (List.mem_cons_of_mem _ hm)
    have : (jSq (n :: l)).length = (Lib.itoa n).length + 1 + (jSq l).length := by simp [jSq]; omega
    rw [this, List.length_cons]
    omega
theorem qJ1 {b : Nat} : ∀ {l : List Str}, (∀ y ∈ l, y.length + 1 ≤ b) → (unl l).length ≤ b * l.length := by
  intro l
  induction l with
  | nil => intro _; simp [unl]
  | cons y l ih =>
    intro h
    have h1 := h y List.mem_cons_self
    have h2 := ih fun m hm => h m (List.mem_cons_of_mem _ hm)
    rw [jHy, List.length_append, List.length_cons, List.length_cons, Nat.mul_add]
    omega
theorem jPg {S O : Type} {n N : Nat} {f : S → Option (S ⊕ O)} {fin : O} (g : Nat → S) (hf : ∀ i : Nat, i < n → f (g i) = some (.inl (g (i + 1)))) (he : f (g n) = some (.inr fin)) (hN : n < N) : jQ1 f N (g 0) = some fin := by
  have key : ∀ k i, i + k = n → ∀ M, k < M → jQ1 f M (g i) = some fin := by
    intro k
    induction k with
    | zero =>
      intro i hi M hM
      obtain ⟨M, rfl⟩ : ∃ m, M = m + 1 := ⟨M - 1, by omega⟩
      obtain rfl : i = n := by omega
      simp only [jQ1, he]
    | succ k ih =>
      intro i hi M hM
      obtain ⟨M, rfl⟩ : ∃ m, M = m + 1 := ⟨M - 1, by omega⟩
      simp only [jQ1, hf i (by omega)]
      exact ih (i + 1) (by omega) M (by omega)
  exact key n 0 (by omega) N (by omega)
/- the program -/
theorem qWh {n : Int} (h : big n) : qZy n = some (Lib.itoa n) := by
  unfold big at h
  unfold qZy inI
  rw [dT (by omega), dT (by omega)]; rfl
theorem jHx {x y : Str} (h : x.length + y.length ≤ 10000000) : qJs x y = some (x ++ y) := by
  unfold qJs
  rw [show Nat.ble (x.length + y.length) lim = true by rw [Nat.ble_eq]; unfold lim; omega]; rfl
theorem qQg {x y : Str} (h : x.length + y.length ≤ 10000000) : qU9 x y = some (x ++ y) := by
  unfold qU9
  rw [show Nat.ble (x.length + y.length) 140737488355328 = true by rw [Nat.ble_eq]; omega]; rfl
theorem jRf {α : Type} {l : List α} {k : Nat} {x : α} (h : x ∈ l.take k) : x ∈ l := List.mem_of_mem_take h
theorem qJm {ns : List Int} (hn : ∀ n ∈ ns, big n) (i : Nat) (hl : ns.length ≤ 100) : (jSq (ns.take i)).length ≤ 1200 := by
  have := jMu (l := ns.take i) fun n h => hn n (jRf h)
  rw [List.length_take] at this
  omega
theorem jA7 {ns : List Int} {i : Nat} (hi : i < ns.length) : jSq (ns.take (i + 1)) = jSq (ns.take i) ++ 32 :: Lib.itoa ns[i] := by
  rw [List.take_succ_eq_append_getElem hi, qK0]; simp [jSq]
theorem jCr {N : Nat} {g : Str} {ws : List Str} {ns : List Int} (hg : g.length ≤ 1000000) (hw : (Lib.join ws [32]).length ≤ 1000) (hw2 : ws.length ≤ 10) (hn : ∀ n ∈ ns, big n) (hl : ns.length ≤ 100) (hN : 2 ^ 64 ≤ N) :
    jVa N g ws ns = some (g ++ jDk ws ns ++ [10]) := by
  unfold jVa
  have ej : jHu N ws [32] = some (Lib.join ws [32]) := by
    unfold jHu qUq
    rw [show Nat.ble (Lib.join ws [32]).length 140737488355328 = true by rw [Nat.ble_eq]; omega, show Nat.ble ws.length 140737488355328 = true by rw [Nat.ble_eq]; omega]
    rfl
  rw [ej, bS, qQg (by omega), bS]
  have := jPg (f := jVs N ns) (N := N) (n := ns.length) (fin := g ++ Lib.join ws [32] ++ jSq ns) (fun i => ((i : Int), g ++ Lib.join ws [32] ++ jSq (ns.take i))) (fun i hi => by
    have h1 := qJm hn i hl
    have h2 := jCs (hn ns[i] (List.getElem_mem hi))
    have e : jY5 N ns[i] = some (Lib.itoa ns[i]) := qWh (hn ns[i] (List.getElem_mem hi))
    unfold jVs
    simp only [jQe]
    rw [dT (by omega), cnT, jKa hi, bS, e, bS, jHx (by simp; omega), bS, qQg (by simp only [List.length_append, List.length_cons, List.length_nil]; omega), bS, jN9 (by omega), jA7 hi]
    simp) (by
    unfold jVs
    simp only [jQe]
    rw [dF (by omega), cnF, List.take_length]) (by omega)
  rw [List.take_zero, show jSq [] = [] from rfl, List.append_nil] at this
  rw [show jQ1 (jVs N ns) N (0, g ++ Lib.join ws [32]) = _ from this, bS]
  have h1 := jMu hn
  rw [qQg (by simp only [List.length_append, List.length_cons, List.length_nil]; omega), bS]
  unfold jDk
  simp
theorem qU5 {a b : List Int} {i : Nat} (hi : i < a.length) : ilv (a.drop i) (b.drop i) = a[i] :: ((if h : i < b.length then [b[i]] else []) ++ ilv (a.drop (i + 1)) (b.drop (i + 1))) := by
  rw [List.drop_eq_getElem_cons hi]
  by_cases h : i < b.length
  · rw [List.drop_eq_getElem_cons h, dif_pos h]; rfl
  · rw [List.drop_of_length_le (show b.length ≤ i by omega), List.drop_of_length_le (show b.length ≤ i + 1 by omega), dif_neg h]; rfl
theorem qKf {N : Nat} {t : jJv} (hl : t.Levels.length < 1000) : ∀ (k i : Nat) (acc : List Int) (M : Nat), i + k = t.Levels.length → k < M → acc.length + 2 * k ≤ 10000 →
    jQ1 (jZt N t) M (acc, (i : Int)) = some (acc ++ ilv (t.Levels.drop i) (t.Halves.drop i)) := by
  intro k
  induction k with
  | zero =>
    intro i acc M hi hM _
    obtain ⟨M, rfl⟩ : ∃ m, M = m + 1 := ⟨M - 1, by omega⟩
    have e : jZt N t (acc, (i : Int)) = some (.inr acc) := by
      unfold jZt
      simp only [jQe]
      rw [dF (by omega), cnF]
    rw [jQ1, e, List.drop_of_length_le (show t.Levels.length ≤ i by omega)]
    simp [ilv]
  | succ k ih =>
    intro i acc M hi hM ha
    obtain ⟨M, rfl⟩ : ∃ m, M = m + 1 := ⟨M - 1, by omega⟩
    have hlt : i < t.Levels.length := by omega
    rw [qU5 hlt]
    by_cases h : i < t.Halves.length
    · have e : jZt N t (acc, (i : Int)) = some (.inl (acc ++ [t.Levels[i]] ++ [t.Halves[i]], ((i + 1 : Nat) : Int))) := by
        unfold jZt
        simp only [jQe]
        rw [dT (by omega), cnT, jKa hlt, bS, jBa (by simp; unfold lim; omega), bS, dT (by omega), cnT, jKa h, bS, jBa (by simp; unfold lim; omega), bS, jN9 (by omega)]
      rw [jQ1, e, dif_pos h]
      simp only []
      rw [ih (i + 1) _ M (by omega) (by omega) (by simp; omega)]
      simp
    · have e : jZt N t (acc, (i : Int)) = some (.inl (acc ++ [t.Levels[i]], ((i + 1 : Nat) : Int))) := by
        unfold jZt
        simp only [jQe]
        rw [dT (by omega), cnT, jKa hlt, bS, jBa (by simp; unfold lim; omega), bS, dF (by omega), cnF, jN9 (by omega)]
      rw [jQ1, e, dif_neg h]
      simp only []
      rw [ih (i + 1) _ M (by omega) (by omega) (by simp; omega)]
      simp
theorem qX2 {N : Nat} {t : jJv} (hl : t.Levels.length < 1000) (hN : 2 ^ 64 ≤ N) : jQ1 (jZt N t) N ([t.X, t.Width], 0) = some (stN t) := by
  have := qKf (N := N) hl t.Levels.length 0 [t.X, t.Width] N (by omega) (by omega) (by simp; omega)
  rw [List.drop_zero, List.drop_zero] at this
  exact this
theorem qW5 {N : Nat} {t : jJv} (hl : t.Levels.length < 1000) (hN : 2 ^ 64 ≤ N) : jQ1 (jK8 N t) N ([t.X, t.Width], 0) = some (stN t) :=
  qX2 (N := N) hl hN
theorem qWu {N : Nat} {s : GShip} (h1 : s.Items.length ≤ 1000) (hN : 2 ^ 64 ≤ N) : jUy N s = some (s.Light :: s.Items) := by
  unfold jUy jZh
  obtain ⟨M, rfl⟩ : ∃ M, N = M + 3 := ⟨N - 3, by omega⟩
  have e1 : jQ1 (jQs (M + 3) [[s.Light], s.Items]) (M + 3) (0, 0) = some (((s.Items.length + 1 : Nat) : Int)) := by
    have a0 : jQs (M + 3) [[s.Light], s.Items] (0, 0) = some (.inl (1, 1)) := rfl
    have a1 : jQs (M + 3) [[s.Light], s.Items] (1, 1) = some (.inl (((s.Items.length + 1 : Nat) : Int), 2)) := by
      unfold jQs
      simp only [jQe]
      rw [dT (by simp), cnT, show idx [[s.Light], s.Items] 1 = some s.Items from rfl, bS, w64 (by omega) (by omega), dF (by omega), cnF, w64 (by omega) (by omega)]
      congr 3
      omega
    have a2 : jQs (M + 3) [[s.Light], s.Items] (((s.Items.length + 1 : Nat) : Int), 2) = some (.inr (((s.Items.length + 1 : Nat) : Int))) := rfl
    simp only [jQ1, a0, a1, a2]
  rw [e1, bS]
  have e2 : jXa (M + 3) (((s.Items.length + 1 : Nat) : Int)) = some [] := by
    unfold jXa
    simp only [jQe, jKp, List.length_nil]
    have w1 : IntKind.i64.wrap ((((s.Items.length + 1 : Nat) : Int)) - IntKind.i64.wrap (0 - ((0 : Nat) : Int))) = ((s.Items.length + 1 : Nat) : Int) := by
      rw [w64 (n := 0 - ((0 : Nat) : Int)) (by omega) (by omega), w64 (by omega) (by omega)]; omega
    rw [dF (by omega), cnF, bS, w1, dT (by omega), cnT]
    unfold mkp
    rw [dT (by omega), dT (by unfold lim; omega)]
    simp
  rw [e2, bS]
  have b0 : jQ4 (M + 3) [[s.Light], s.Items] ([], 0) = some (.inl ([s.Light], 1)) := rfl
  have b1 : jQ4 (M + 3) [[s.Light], s.Items] ([s.Light], 1) = some (.inl (s.Light :: s.Items, 2)) := by
    unfold jQ4
    simp only [jQe]
    rw [dT (by simp), cnT, show idx [[s.Light], s.Items] 1 = some s.Items from rfl, bS, jBa (by simp; unfold lim; omega), bS]; rfl
  have b2 : jQ4 (M + 3) [[s.Light], s.Items] (s.Light :: s.Items, 2) = some (.inr (s.Light :: s.Items)) := rfl
  simp only [jQ1, b0, b1, b2, bS]
/- what a ship that is right is -/
structure qVx (t : jJv) : Prop where
  x : big t.X
  w : big t.Width
  l0 : 1 ≤ t.Levels.length
  l1 : t.Levels.length ≤ 30
  h : t.Halves.length + 1 = t.Levels.length
  lv : ∀ n ∈ t.Levels, big n
  hv : ∀ n ∈ t.Halves, big n
structure qQ6 (y : jJc) : Prop where
  n : jW3 y.Name = true
  m : big y.Mass
  x : big y.X
  z : big y.Z
  f : big y.Free
structure jC8 (s : GShip) : Prop where
  n : jW3 s.Name = true
  l : big s.Length
  s40 : s.Stations.length ≤ 40
  i60 : s.Items.length ≤ 60
  st : ∀ t ∈ s.Stations, qVx t
  li : qQ6 s.Light
  it : ∀ x ∈ s.Items, qQ6 x
theorem jPu {s : Str} (h : jW3 s = true) : s.length ≤ 12 := by
  unfold jW3 at h
  cases s with
  | nil => simp
  | cons c r => simp at h; simp; omega
theorem qHz {n : Int} : ∀ {a b : List Int}, n ∈ ilv a b → n ∈ a ∨ n ∈ b := by
  intro a
  induction a with
  | nil => intro b h; cases h
  | cons x a ih =>
    intro b h
    cases b with
    | nil =>
      rcases List.mem_cons.1 h with rfl | h
      · exact .inl List.mem_cons_self
      · rcases ih h with h | h
        · exact .inl (List.mem_cons_of_mem _ h)
        · exact .inr h
    | cons y b =>
      rcases List.mem_cons.1 h with rfl | h
      · exact .inl List.mem_cons_self
      · rcases List.mem_cons.1 h with rfl | h
        · exact .inr List.mem_cons_self
        · rcases ih h with h | h
          · exact .inl (List.mem_cons_of_mem _ h)
          · exact .inr (List.mem_cons_of_mem _ h)
theorem qH2 : ∀ {a b : List Int}, b.length ≤ a.length → (ilv a b).length = a.length + b.length := by
  intro a
  induction a with
  | nil => intro b h; have : b = [] := List.length_eq_zero_iff.1 (by simpa using h); subst this; rfl
  | cons x a ih =>
    intro b h
    cases b with
    | nil => have := ih (b := []) (by simp); simp [ilv, this]
    | cons y b => have := ih (b := b) (by simpa using h); simp [ilv, this]; omega
theorem jRl {t : jJv} (h : qVx t) : ∀ n ∈ stN t, big n := by
  intro n hn
  unfold stN at hn
  rcases List.mem_append.1 hn with hn | hn
  · simp at hn
    rcases hn with rfl | rfl
    · exact h.x
    · exact h.w
  · rcases qHz hn with hn | hn
    · exact h.lv n hn
    · exact h.hv n hn
theorem jCf {t : jJv} (h : qVx t) : (stN t).length = 2 * t.Levels.length + 1 := by
  have h1 := h.h
  unfold stN
  rw [List.length_append, qH2 (by omega)]
  simp; omega
theorem jC6 {x : jJc} (h : qQ6 x) : ∀ n ∈ ldN x, big n := by
  intro n hn
  unfold ldN at hn
  simp at hn
  rcases hn with rfl | rfl | rfl | rfl
  · exact h.m
  · exact h.x
  · exact h.z
  · exact h.f
theorem qQv {t : jJv} (h : qVx t) : (stL t).length + 1 ≤ 750 := by
  have h1 := jMu (jRl h)
  have h2 := jCf h
  have h3 := h.l1
  unfold stL jDk
  rw [List.length_append, show (Lib.join [qQu] [32]).length = 7 by rfl]
  omega
theorem jRs {a b : Str} : Lib.join [a, b] [32] = a ++ 32 :: b := by rw [Lib.join_cons]; simp [Lib.joinTail]
theorem jLs {w : Str} {x : jJc} (hw : w.length ≤ 5) (h : qQ6 x) : (ldL w x).length + 1 ≤ 100 := by
  have h1 := jMu (jC6 h)
  have h2 := jPu h.n
  unfold ldL jDk
  rw [jRs, show (ldN x).length = 4 from rfl] at *
  simp only [List.length_append, List.length_cons] at *
  omega
theorem jN8 {s : GShip} (h : jC8 s) : (jCu s).length + 1 ≤ 100 := by
  have h1 := jMu (l := [s.Length]) (fun n hn => by rw [List.mem_singleton] at hn; rw [hn]; exact h.l)
  have h2 := jPu h.n
  unfold jCu jDk
  rw [jRs]
  simp only [List.length_append, List.length_cons, List.length_nil, jRu] at *
  omega
theorem jSm {l : List jJv} (h : ∀ t ∈ l, qVx t) (hl : l.length ≤ 40) : (unl (l.map stL)).length ≤ 30000 := by
  have := qJ1 (b := 750) (l := l.map stL) (fun y hy => by obtain ⟨t, ht, rfl⟩ := List.mem_map.1 hy; exact qQv (h t ht))
  rw [List.length_map] at this
  omega
theorem qG7 {l : List jJc} (h : ∀ t ∈ l, qQ6 t) (hl : l.length ≤ 60) : (unl (l.map (ldL jMh))).length ≤ 6000 := by
  have := qJ1 (b := 100) (l := l.map (ldL jMh)) (fun y hy => by obtain ⟨t, ht, rfl⟩ := List.mem_map.1 hy; exact jLs (by decide) (h t ht))
  rw [List.length_map] at this
  omega
theorem qVl {s : GShip} (h : jC8 s) : (qW3 s).length ≤ 40000 := by
  have h1 := jN8 h
  have h2 := jSm h.st h.s40
  have h3 := qG7 h.it h.i60
  have h4 := jLs (w := jHa) (by decide) h.li
  unfold qW3 jN5
  rw [jHy, jSj, jHy]
  simp only [List.length_append, List.length_cons] at *
  omega
/- the program's Print -/
theorem qKw {N : Nat} {s : GShip} (h : jC8 s) (hN : 2 ^ 64 ≤ N) {g : Str} (hg : g.length ≤ 1000) : jQ1 (jW1 N s) N (0, g) = some (g ++ unl (s.Stations.map stL)) := by
  have h40 := h.s40
  have := jPg (f := jW1 N s) (N := N) (n := s.Stations.length) (fin := g ++ unl (s.Stations.map stL)) (fun i => ((i : Int), g ++ unl ((s.Stations.take i).map stL))) (fun i hi => by
    have ht := h.st s.Stations[i] (List.getElem_mem hi)
    have h1 := jSm (l := s.Stations.take i) (fun t ht => h.st t (jRf ht)) (by rw [List.length_take]; omega)
    have h2 := ht.l1
    have h3 := jCf ht
    unfold jW1
    simp only [jQe]
    rw [dT (by omega), cnT, jKa hi, bS, qX2 (by omega) hN, bS, show ([([115, 116, 97, 116, 105, 111, 110] : Str)] : List Str) = [qQu] from rfl, jCr (by simp only [List.length_append]; omega) (by decide) (by decide) (jRl ht) (by omega) hN, bS, jN9 (by omega), List.take_succ_eq_append_getElem hi, List.map_append, jSj, List.map_singleton, jHy, show unl [] = [] from rfl, show jDk [qQu] (stN s.Stations[i]) = stL s.Stations[i] from rfl]
    simp) (by
    unfold jW1
    simp only [jQe]
    rw [dF (by omega), cnF, List.take_length]) (by omega)
  rw [List.take_zero, List.map_nil, show unl [] = [] from rfl, List.append_nil] at this
  exact this
def jC3 (i : Nat) : Str := if i = 0 then jHa else jMh
def jAa (s : GShip) : List Str := ldL jHa s.Light :: s.Items.map (ldL jMh)
theorem qUe {s : GShip} {i : Nat} (hi : i < (s.Light :: s.Items).length) : (jAa s)[i]? = some (ldL (jC3 i) (s.Light :: s.Items)[i]) := by
  cases i with
  | zero => rfl
  | succ i =>
    have : i < s.Items.length := by simpa using hi
    simp [jAa, jC3, this]
theorem jCq {s : GShip} : (jAa s).length = s.Items.length + 1 := by simp [jAa]
theorem jAt {s : GShip} {i : Nat} (hi : i < (s.Light :: s.Items).length) : unl ((jAa s).take (i + 1)) = unl ((jAa s).take i) ++ ldL (jC3 i) (s.Light :: s.Items)[i] ++ [10] := by
  rw [List.take_add_one, qUe hi, jSj]
  simp [unl]
theorem qYc {s : GShip} (h : jC8 s) {i : Nat} (hi : i < (s.Light :: s.Items).length) : qQ6 (s.Light :: s.Items)[i] := by
  cases i with
  | zero => exact h.li
  | succ i => exact h.it _ (List.getElem_mem (by simpa using hi))
theorem qG1 {s : GShip} (h : jC8 s) (i : Nat) : (unl ((jAa s).take i)).length ≤ 7000 := by
  have h60 := h.i60
  have := qJ1 (b := 100) (l := (jAa s).take i) (fun y hy => by
    have hy := jRf hy
    unfold jAa at hy
    rcases List.mem_cons.1 hy with rfl | hy
    · exact jLs (by decide) h.li
    · obtain ⟨t, ht, rfl⟩ := List.mem_map.1 hy; exact jLs (by decide) (h.it t ht))
  rw [List.length_take, jCq] at this
  omega
theorem qGt {N : Nat} {w : Str} {x : jJc} (hw : w.length ≤ 5) (h : qQ6 x) {g : Str} (hg : g.length ≤ 100000) (hN : 2 ^ 64 ≤ N) : jVa N g [w, x.Name] [x.Mass, x.X, x.Z, x.Free] = some (g ++ ldL w x ++ [10]) := by
  have h1 := jPu h.n
  exact jCr (by omega) (by rw [jRs]; simp only [List.length_append, List.length_cons]; omega) (by simp) (jC6 h) (by simp) hN
theorem qK6 {N : Nat} {s : GShip} (h : jC8 s) (hN : 2 ^ 64 ≤ N) {g : Str} (hg : g.length ≤ 50000) : jQ1 (jWs N (s.Light :: s.Items)) N (0, g) = some (g ++ unl (jAa s)) := by
  have h60 := h.i60
  have hlen : (s.Light :: s.Items).length = s.Items.length + 1 := rfl
  have := jPg (f := jWs N (s.Light :: s.Items)) (N := N) (n := (s.Light :: s.Items).length) (fin := g ++ unl (jAa s)) (fun i => ((i : Int), g ++ unl ((jAa s).take i))) (fun i hi => by
    have h1 := qG1 h i
    have hx := qYc h hi
    unfold jWs
    simp only [jQe, jU3]
    rw [dT (by omega), cnT, jKa hi, bS, jN9 (by omega), jAt hi]
    by_cases h0 : i = 0
    · subst h0
      rw [dT (by rfl), cnT, show ([108, 105, 103, 104, 116] : Str) = jHa from rfl, qGt (by decide) hx (by simp only [List.length_append]; omega) hN, bS, show jC3 0 = jHa from rfl]
      simp
    · rw [dF (by omega), cnF, show ([105, 116, 101, 109] : Str) = jMh from rfl, qGt (by decide) hx (by simp only [List.length_append]; omega) hN, bS, show jC3 i = jMh by unfold jC3; rw [if_neg h0]]
      simp) (by
    unfold jWs
    simp only [jQe]
    rw [dF (by omega), cnF, List.take_of_length_le (by rw [jCq]; omega)]) (by omega)
  rw [List.take_zero, show unl [] = [] from rfl, List.append_nil] at this
  exact this
theorem qJ3 {s : GShip} : qW3 s = (jCu s ++ [10]) ++ unl (s.Stations.map stL) ++ unl (jAa s) := by
  unfold qW3 jN5 jAa
  rw [jHy, jSj]
  simp
theorem jAm {s : GShip} (h : jC8 s) : (Lib.join [jRu, s.Name] [32]).length ≤ 1000 ∧ ∀ n ∈ [s.Length], big n := by
  have h1 := jPu h.n
  exact ⟨by rw [jRs]; simp [jRu]; omega, fun n hn => by rw [List.mem_singleton] at hn; rw [hn]; exact h.l⟩
theorem qYs {N : Nat} {s : GShip} (hc : jWd N s = some 0) (h : jC8 s) (hN : 2 ^ 64 ≤ N) : jKu N s = some (qW3 s, 0) := by
  have h1 := jN8 h
  have h2 := jSm h.st h.s40
  have hi := h.i60
  unfold jKu
  rw [hc, bS, jYp, dT rfl, Bool.not_true, cnF, show ([115, 104, 105, 112] : Str) = jRu from rfl, jCr (by simp) (jAm h).1 (by simp) (jAm h).2 (by simp) hN, bS, List.nil_append, show jDk [jRu, s.Name] [s.Length] = jCu s from rfl, qKw h hN (by simp only [List.length_append, List.length_cons, List.length_nil]; omega), bS, qWu (by omega) hN, bS, qK6 h hN (by simp only [List.length_append, List.length_cons, List.length_nil]; omega), bS, ← qJ3]
  unfold bldS
  rw [show (qW3 s).isEmpty = false by rw [qJ3]; cases hh : jCu s <;> rfl, cnF, bS]
end Go.KB
