/- Plain laws: the supports, of the program alone. No condition. -/
import Derived.Test.YthoopaegiclfaaaGreatPZe
import Derived.Test.YthoopaegiclfaaaGreatPZb
namespace Go.KB
set_option linter.unusedVariables false
set_option maxRecDepth 100000
theorem jD4 {S O : Type} {n N : Nat} {f : S → Option (S ⊕ O)} (g : Nat → S) (r : O) (h : ∀ i : Nat, i < n → f (g i) = some (.inl (g (i + 1)))) (he : f (g n) = some (.inr r)) (hN : n < N) : jXf f N (g 0) = some r := by
  have key : ∀ (k i M : Nat), i + k = n → k < M → jXf f M (g i) = some r := by
    intro k
    induction k with
    | zero =>
      intro i M hi hM
      obtain ⟨M, rfl⟩ : ∃ m, M = m + 1 := ⟨M - 1, by omega⟩
      obtain rfl : i = n := by omega
      rw [jXf, he]
    | succ k ih =>
      intro i M hi hM
      obtain ⟨M, rfl⟩ : ∃ m, M = m + 1 := ⟨M - 1, by omega⟩
      rw [jXf, h i (by omega)]
      exact ih (i + 1) M (by omega) (by omega)
  exact key n 0 N (by omega) hN
instance : Inhabited jQg := ⟨jAz⟩
instance : Inhabited jX5 := ⟨⟨0, jAz, ⟨[], []⟩⟩⟩
/- the curve of a station -/
def slQ (t : jJy) (d : Int) (k : Nat) : Rat := if k < t.Halves.length then kgQ ((2 * t.Halves[k]! * t.Width : Int) : Rat) d else 0
def jUl (t : jJy) (d : Int) (i : Nat) : List jQg := (List.range i).map fun k => R (slQ t d k)
theorem jLv (t : jJy) (d : Int) (i : Nat) : (jUl t d i).length = i := by unfold jUl; simp
theorem jM0 (t : jJy) (d : Int) (i : Nat) : jUl t d (i + 1) = jUl t d i ++ [R (slQ t d i)] := by unfold jUl; rw [List.range_succ, List.map_append]; rfl
theorem slopesTo_get {t : jJy} {d : Int} {n i : Nat} (h : i < n) : (jUl t d n)[i]! = R (slQ t d i) := by
  rw [bang (by rw [jLv]; exact h)]
  unfold jUl
  rw [List.getElem_map, List.getElem_range]
def qXu (t : jJy) (d : Int) : jX7 := ⟨t.Levels, jUl t d t.Levels.length⟩
def qVb (d : Int) (t : jJy) : jX5 := ⟨t.X, R 0, qXu t d⟩
theorem Fit.hw {t : jJy} (h : Fit t) {k : Nat} (hk : k < t.Halves.length) : 0 ≤ 2 * t.Halves[k]! * t.Width ∧ 2 * t.Halves[k]! * t.Width ≤ 200000 * 100000 := by
  have h1 := h.hb k hk; have h2 := h.w0; have h3 := h.w1
  exact ⟨Int.mul_nonneg (by omega) (by omega), Int.mul_le_mul (by omega) h3 (by omega) (by omega)⟩
theorem whole0 {N : Nat} (hN : 2 ^ 64 ≤ N) : jJ1 N 0 = some (R 0) := by rw [jM4 (by omega) (by omega) hN]; rfl
theorem qWe {N : Nat} {l : List Int} (h : l.length < 1000000) : jXx N l = some l := by
  have hlim : lim ≥ 10000000 := by decide
  unfold jXx
  rw [jDp (by rw [List.length_nil]; omega)]; rfl
section
variable {N : Nat} {t : jJy} {d : Int} (h : Fit t) (d0 : 900 ≤ d) (d1 : d ≤ 1100) (hN : 2 ^ 64 ≤ N)
include h d0 d1 hN in
theorem sup_L1 : jXf (jZ1 N d t) N (⟨t.Levels, []⟩, 0) = some ⟨t.Levels, jUl t d t.Halves.length⟩ := by
  have hlim : lim ≥ 10000000 := by decide
  have hn := h.nh; have hn3 := h.n3
  refine jD4 (n := t.Halves.length) (fun i => ((⟨t.Levels, jUl t d i⟩ : jX7), (i : Int))) _ (fun i hi => ?_) ?_ (by omega)
  · have hb := h.hb i hi; have hw := h.hw hi
    unfold jZ1
    simp only []
    rw [jQr, dT (by omega), cnT, jPz hi, bS, w64 (n := 2 * t.Halves[i]!) (by omega) (by omega), w64 (by omega) (by omega), jM4 (by omega) (by omega) hN, bS, qY6 (k := 64) (Qf.R (Sz.i64 (by omega) (by omega))) (Sz.i64 (by omega) (by omega)) (by omega) (by omega) (by omega) hN, bS, jDp (by rw [jLv, List.length_singleton]; omega), bS, jNh (by omega), jM0]
    unfold slQ
    rw [if_pos hi]
  · unfold jZ1
    simp only []
    rw [jQr, dF (by omega), cnF]
end
section
variable {N : Nat} {s : GShip} {d : Int} (h : Fits s) (d0 : 900 ≤ d) (d1 : d ≤ 1100) (hN : 2 ^ 64 ≤ N)
def jNx (s : GShip) (d : Int) (i : Nat) : List jX5 := (List.range i).map fun k => qVb d s.Stations[k]!
theorem jLf (s : GShip) (d : Int) (i : Nat) : (jNx s d i).length = i := by unfold jNx; simp
theorem jAf (s : GShip) (d : Int) (i : Nat) : jNx s d (i + 1) = jNx s d i ++ [qVb d s.Stations[i]!] := by unfold jNx; rw [List.range_succ, List.map_append]; rfl
theorem qQh {s : GShip} {d : Int} {n i : Nat} (h : i < n) : (jNx s d n)[i]! = qVb d s.Stations[i]! := by
  rw [bang (by rw [jLf]; exact h)]
  unfold jNx
  rw [List.getElem_map, List.getElem_range]
include h d0 d1 hN in
theorem sup_L2 : jXf (jZ2 N s d) N ([], 0) = some (jNx s d s.Stations.length) := by
  have hlim : lim ≥ 10000000 := by decide
  have hn := h.n6
  refine jD4 (n := s.Stations.length) (fun i => (jNx s d i, (i : Int))) _ (fun i hi => ?_) ?_ (by omega)
  · have hf := h.fit i hi
    have hnh := hf.nh; have hn3 := hf.n3
    unfold jZ2
    simp only []
    rw [jQr, dT (by omega), cnT, jPz hi, bS, qWe (by omega), bS, sup_L1 hf d0 d1 hN, bS, whole0 hN, bS]
    simp only []
    rw [jDp (by rw [jLv, List.length_singleton]; omega), bS, bS, jDp (by rw [jLf, List.length_singleton]; omega), bS, jNh (by omega), jAf]
    have : jUl s.Stations[i]! d s.Stations[i]!.Levels.length = jUl s.Stations[i]! d s.Stations[i]!.Halves.length ++ [R 0] := by
      rw [← hnh, jM0]
      unfold slQ
      rw [if_neg (Nat.lt_irrefl _)]
    unfold qVb qXu
    rw [this]
  · unfold jZ2
    simp only []
    rw [jQr, dF (by omega), cnF]
end
end Go.KB
