/- The plain law of HullMemory: it returns true for every ship and load. No condition. -/
import Derived.Test.YthoopaegiclfaaaGreatPZj
import Derived.Test.YthoopaegiclfaaaGreatPSu
namespace Go.KB
set_option linter.unusedVariables false
set_option maxRecDepth 100000
theorem jD2 : jN9 jHx := ⟨by decide, by decide, fun i hi => absurd hi (Nat.not_lt_zero _), fun i hi => absurd hi (Nat.not_lt_zero _), .inl (by decide), fun i hi => absurd hi (Nat.not_lt_zero _)⟩
theorem qZ1 {N : Nat} {s : GShip} {l : GLoad} (ht : jN9 s) (hN : 2 ^ 64 ≤ N) : ∃ t e, jG1 N s l = some (t, e) ∧ jN9 t := by
  rw [qYe ht hN]
  have h2 := ht.it
  by_cases h : jYd s = 0
  · have h60 := (qWb (qZ0 h)).1
    rw [if_pos h]
    by_cases h3 : jYd (plus s l) = 0
    · rw [if_pos h3]; exact ⟨_, _, rfl, ht.items (by simp; omega)⟩
    · rw [if_neg h3]; exact ⟨_, _, rfl, jD2⟩
  · rw [if_neg h]; exact ⟨_, _, rfl, jD2⟩
theorem qX6 {N : Nat} {s : GShip} {n : Str} {x z : Int} (ht : jN9 s) (hN : 2 ^ 64 ≤ N) : ∃ t e, jK2 N s n x z = some (t, e) ∧ jN9 t := by
  rw [qY7 ht hN]
  have h2 := ht.it
  split
  · split
    · exact ⟨_, _, rfl, jD2⟩
    · split
      · exact ⟨_, _, rfl, ht.items (by simp; omega)⟩
      · exact ⟨_, _, rfl, jD2⟩
  · exact ⟨_, _, rfl, jD2⟩
theorem jT6 {N : Nat} {s : GShip} {n : Str} (ht : jN9 s) (hN : 2 ^ 64 ≤ N) : ∃ t e, jWb N s n = some (t, e) ∧ jN9 t := by
  rw [qQq ht hN]
  have h2 := ht.it
  split
  · split
    · exact ⟨_, _, rfl, jD2⟩
    · exact ⟨_, _, rfl, ht.items (by simp; omega)⟩
  · exact ⟨_, _, rfl, jD2⟩
theorem jS5 {N : Nat} {s : GShip} (ht : jN9 s) (hN : 2 ^ 64 ≤ N) : ∃ l e, jWa N s 1000 = some (l, e) ∧ l.length < 1000000 ∧ ∀ i, i < l.length → l[i]!.Curve.Starts.length < 1000000 := by
  unfold jWa
  rw [qQe ht hN, bS, jW5]
  by_cases hz : qZm s 1000 = 0
  · obtain ⟨hs, hd⟩ := both_ok hz
    obtain ⟨d0, d1⟩ := qYj hd
    have hf := Fits.of ht hs
    rw [dT hz, Bool.not_true, cnF, sup_L2 hf d0 d1 hN]
    refine ⟨_, _, rfl, by rw [jLf]; exact ht.st, fun i hi => ?_⟩
    rw [jLf] at hi
    rw [qQh hi]
    exact ht.lv i hi
  · rw [dF hz]; exact ⟨_, _, rfl, by decide, fun i hi => absurd hi (Nat.not_lt_zero _)⟩
section
variable {N : Nat} {v : GShip} (ht : jN9 v) (hN : 2 ^ 64 ≤ N)
include ht hN in
theorem m_L2 {i : Nat} (hi : i < v.Stations.length) : jXf (jVx N v i) N 0 = some () := by
  have hl := ht.lv i hi
  refine jD4 (n := v.Stations[i]!.Levels.length) (fun k => (k : Int)) _ (fun k hk => ?_) ?_ (by omega)
  · unfold jVx
    simp only [jPz hi, bS]
    rw [jQr, dT (by omega), cnT, jPz hk, bS, jNh (by omega)]
  · unfold jVx
    simp only [jPz hi, bS]
    rw [jQr, dF (by omega), cnF]
include ht hN in
theorem m_L1 {i : Nat} (hi : i < v.Stations.length) : jXf (jVz N v i) N 0 = some () := by
  have hl := ht.hv i hi
  refine jD4 (n := v.Stations[i]!.Halves.length) (fun k => (k : Int)) _ (fun k hk => ?_) ?_ (by omega)
  · unfold jVz
    simp only [jPz hi, bS]
    rw [jQr, dT (by omega), cnT, jPz hk, bS, jNh (by omega)]
  · unfold jVz
    simp only [jPz hi, bS]
    rw [jQr, dF (by omega), cnF]
include ht hN in
theorem m_L4 : jXf (jVw N v) N 0 = some () := by
  have hl := ht.st
  refine jD4 (n := v.Stations.length) (fun k => (k : Int)) _ (fun k hk => ?_) ?_ (by omega)
  · unfold jVw
    rw [jQr, dT (by omega), cnT, m_L2 ht hN hk, bS, m_L1 ht hN hk, bS, jNh (by omega)]
  · unfold jVw
    rw [jQr, dF (by omega), cnF]
include ht hN in
theorem m_L3 : jXf (jVv N v) N 0 = some () := by
  have hl := ht.it
  refine jD4 (n := v.Items.length) (fun k => (k : Int)) _ (fun k hk => ?_) ?_ (by omega)
  · unfold jVv
    rw [jQr, dT (by omega), cnT, jPz hk, bS, jNh (by omega)]
  · unfold jVv
    rw [jQr, dF (by omega), cnF]
end
theorem m_L7 {N : Nat} {a b : GShip × Int} (ha : jN9 a.1) (hb : jN9 b.1) (hN : 2 ^ 64 ≤ N) : jXf (jVk N a b) N 0 = some () := by
  refine jD4 (n := 2) (fun k => (k : Int)) _ (fun k hk => ?_) ?_ (by omega)
  · have : ∃ v, idx [a.1, b.1] (k : Int) = some v ∧ jN9 v := by
      match k, hk with
      | 0, _ => exact ⟨_, rfl, ha⟩
      | 1, _ => exact ⟨_, rfl, hb⟩
    obtain ⟨v, hv, ht⟩ := this
    unfold jVk
    rw [jQr, dT (by omega), cnT, hv, bS, m_L4 ht hN, bS, m_L3 ht hN, bS, jNh (by omega)]
  · unfold jVk
    rw [jQr, dF (by decide), cnF]
theorem m_L6 {N : Nat} {l : List jX5} {e : Int} (hl : l.length < 1000000) (hs : ∀ i, i < l.length → l[i]!.Curve.Starts.length < 1000000) (hN : 2 ^ 64 ≤ N) : jXf (jVu N (l, e)) N 0 = some () := by
  refine jD4 (n := l.length) (fun k => (k : Int)) _ (fun k hk => ?_) ?_ (by omega)
  · have hk2 := hs k hk
    have h5 : jXf (jVg N (l, e) k) N 0 = some () := by
      refine jD4 (n := l[k]!.Curve.Starts.length) (fun j => (j : Int)) _ (fun j hj => ?_) ?_ (by omega)
      · unfold jVg
        simp only [jPz hk, bS]
        rw [jQr, dT (by omega), cnT, jPz hj, bS, jNh (by omega)]
      · unfold jVg
        simp only [jPz hk, bS]
        rw [jQr, dF (by omega), cnF]
    unfold jVu
    dsimp only
    rw [jQr, dT (by omega), cnT, h5, bS, jNh (by omega)]
  · unfold jVu
    dsimp only
    rw [jQr, dF (by omega), cnF]
theorem law_HullMemory (x0 : GShip) (x1 : GLoad) (h0 : x0.ok) (h1 : x1.ok) : jK0 (2 ^ 70) x0 x1 = some true := by
  have hN : 2 ^ 64 ≤ (2 ^ 70 : Nat) := by decide
  unfold jK0
  rw [qQn, bS, Bool.not_true, cnF]
  obtain ⟨b, hb, ht⟩ := qVm (s := x0) hN
  rw [hb, bS]
  cases b with
  | false => rfl
  | true =>
    have ht := ht rfl
    rw [Bool.not_true, Bool.false_or]
    generalize jJq .gtr (List.length x1.Name : Int) 40 = c
    cases c with
    | true => rfl
    | false =>
      obtain ⟨t1, e1, k1, g1⟩ := qZ1 (l := x1) ht hN
      obtain ⟨t2, e2, k2, g2⟩ := qX6 (n := x1.Name) (x := 5) (z := 6) g1 hN
      obtain ⟨t3, e3, k3, g3⟩ := jT6 (n := x1.Name) g2 hN
      obtain ⟨l, e4, k4, g4, g5⟩ := jS5 ht hN
      rw [cnF, jTe ht hN, bS, k1, bS, k2, bS, k3, bS, k4, bS, jTe g1 hN, bS, m_L7 g2 g3 hN, bS, m_L6 g4 g5 hN, bS, jCl ht hN, bS, cnT, jCl g1 hN]
      rfl
end Go.KB
