/- Plain laws: supports, and the value of their curves. No condition. -/
import Derived.Test.YtoiefhkiipolmaaGreatPZe
import Derived.Test.YtoiefhkiipolmaaGreatPZb
import Derived.Test.YtoiefhkiipolmaaGreatPZf
namespace Go.KB
set_option linter.unusedVariables false
set_option maxRecDepth 100000
theorem jMc {S O : Type} {n N : Nat} {f : S → Option (S ⊕ O)} (g : Nat → S) (r : O) (h : ∀ i : Nat, i < n → f (g i) = some (.inl (g (i + 1)))) (he : f (g n) = some (.inr r)) (hN : n < N) : jQ1 f N (g 0) = some r := by
  have key : ∀ (k i M : Nat), i + k = n → k < M → jQ1 f M (g i) = some r := by
    intro k
    induction k with
    | zero =>
      intro i M hi hM
      obtain ⟨M, rfl⟩ : ∃ m, M = m + 1 := ⟨M - 1, by omega⟩
      obtain rfl : i = n := by omega
      rw [jQ1, he]
    | succ k ih =>
      intro i M hi hM
      obtain ⟨M, rfl⟩ : ∃ m, M = m + 1 := ⟨M - 1, by omega⟩
      rw [jQ1, h i (by omega)]
      exact ih (i + 1) M (by omega) (by omega)
  exact key n 0 N (by omega) hN
theorem qGq {S O : Type} {n N : Nat} {f : S → Option (S ⊕ O)} (g : Nat → S) (P : O → Prop) (h : ∀ i : Nat, i < n → f (g i) = some (.inl (g (i + 1))) ∨ ∃ o, f (g i) = some (.inr o) ∧ P o) (he : ∃ o, f (g n) = some (.inr o) ∧ P o) (hN : n < N) : ∃ o, jQ1 f N (g 0) = some o ∧ P o := by
  have key : ∀ (k i M : Nat), i + k = n → k < M → ∃ o, jQ1 f M (g i) = some o ∧ P o := by
    intro k
    induction k with
    | zero =>
      intro i M hi hM
      obtain ⟨M, rfl⟩ : ∃ m, M = m + 1 := ⟨M - 1, by omega⟩
      obtain rfl : i = n := by omega
      obtain ⟨o, ho, hp⟩ := he
      exact ⟨o, by rw [jQ1, ho], hp⟩
    | succ k ih =>
      intro i M hi hM
      obtain ⟨M, rfl⟩ : ∃ m, M = m + 1 := ⟨M - 1, by omega⟩
      rcases h i (by omega) with e | ⟨o, e, hp⟩
      · obtain ⟨o, ho, hp⟩ := ih (i + 1) M (by omega) (by omega)
        exact ⟨o, by rw [jQ1, e]; exact ho, hp⟩
      · exact ⟨o, by rw [jQ1, e], hp⟩
  exact key n 0 N (by omega) hN
instance : Inhabited jQv := ⟨jNd⟩
instance : Inhabited jQ3 := ⟨⟨0, jNd, ⟨[], []⟩⟩⟩
/- the curve of a station -/
def slQ (t : jJy) (d : Int) (k : Nat) : Rat := if k < t.Halves.length then kgQ ((2 * t.Halves[k]! * t.Width : Int) : Rat) d else 0
def jW5 (t : jJy) (d : Int) (i : Nat) : List jQv := (List.range i).map fun k => R (slQ t d k)
theorem jY6 (t : jJy) (d : Int) (i : Nat) : (jW5 t d i).length = i := by unfold jW5; simp
theorem jL0 (t : jJy) (d : Int) (i : Nat) : jW5 t d (i + 1) = jW5 t d i ++ [R (slQ t d i)] := by unfold jW5; rw [List.range_succ, List.map_append]; rfl
theorem jMe {t : jJy} {d : Int} {n i : Nat} (h : i < n) : (jW5 t d n)[i]! = R (slQ t d i) := by
  rw [qH7 (by rw [jY6]; exact h)]
  unfold jW5
  rw [List.getElem_map, List.getElem_range]
def jBk (t : jJy) (d : Int) : jQt := ⟨t.Levels, jW5 t d t.Levels.length⟩
def qYl (d : Int) (t : jJy) : jQ3 := ⟨t.X, R 0, jBk t d⟩
theorem Fit.hw {t : jJy} (h : Fit t) {k : Nat} (hk : k < t.Halves.length) : 0 ≤ 2 * t.Halves[k]! * t.Width ∧ 2 * t.Halves[k]! * t.Width ≤ 200000 * 100000 := by
  have h1 := h.hb k hk; have h2 := h.w0; have h3 := h.w1
  exact ⟨Int.mul_nonneg (by omega) (by omega), Int.mul_le_mul (by omega) h3 (by omega) (by omega)⟩
theorem slSz {t : jJy} (h : Fit t) {d : Int} (d0 : 900 ≤ d) (d1 : d ≤ 1100) (k : Nat) : Sz 192 (slQ t d k) := by
  unfold slQ
  split
  · rename_i hk
    have := h.hw hk
    unfold kgQ
    exact (((Sz.i64 (by omega) (by omega)).mul (Sz.i64 (z := d) (by omega) (by omega))).div (Sz.i64 (z := 1000000000) (by omega) (by omega))).mono (by omega)
  · exact Sz.zero.mono (by omega)
theorem whole0 {N : Nat} (hN : 2 ^ 64 ≤ N) : jJ8 N 0 = some (R 0) := by rw [jWw (by omega) (by omega) hN]; rfl
theorem qBw {N : Nat} {l : List Int} (h : l.length < 1000000) : jV3 N l = some l := by
  have hlim : lim ≥ 10000000 := by decide
  unfold jV3
  rw [jK7 (by rw [List.length_nil]; omega)]; rfl
section
variable {N : Nat} {t : jJy} {d : Int} (h : Fit t) (d0 : 900 ≤ d) (d1 : d ≤ 1100) (hN : 2 ^ 64 ≤ N)
include h d0 d1 hN in
theorem sup_L1 : jQ1 (jWs N d t) N (⟨t.Levels, []⟩, 0) = some ⟨t.Levels, jW5 t d t.Halves.length⟩ := by
  have hlim : lim ≥ 10000000 := by decide
  have hn := h.nh; have hn3 := h.n3
  refine jMc (n := t.Halves.length) (fun i => ((⟨t.Levels, jW5 t d i⟩ : jQt), (i : Int))) _ (fun i hi => ?_) ?_ (by omega)
  · have hb := h.hb i hi; have hw := h.hw hi
    unfold jWs
    simp only []
    rw [jQk, dT (by omega), cnT, jNc hi, bS, w64 (n := 2 * t.Halves[i]!) (by omega) (by omega), w64 (by omega) (by omega), jWw (by omega) (by omega) hN, bS, qY6 (k := 64) (Qf.R (Sz.i64 (by omega) (by omega))) (Sz.i64 (by omega) (by omega)) (by omega) (by omega) (by omega) hN, bS, jK7 (by rw [jY6, List.length_singleton]; omega), bS, jLn (by omega), jL0]
    unfold slQ
    rw [if_pos hi]
  · unfold jWs
    simp only []
    rw [jQk, dF (by omega), cnF]
include h d0 d1 hN in
theorem qBz : jQ1 (jV6 N d t) N (⟨t.Levels, []⟩, 0) = some (jBk t d) := by
  have hlim : lim ≥ 10000000 := by decide
  have hn := h.nh; have hn3 := h.n3
  refine jMc (n := t.Levels.length) (fun i => ((⟨t.Levels, jW5 t d i⟩ : jQt), (i : Int))) _ (fun i hi => ?_) ?_ (by omega)
  · unfold jV6
    simp only []
    rw [jQk, dT (by omega), cnT, W_R (by omega) (by omega) hN, bS, jQk, jLn (by omega), jL0]
    by_cases hk : i < t.Halves.length
    · have hb := h.hb i hk; have hw := h.hw hk
      rw [dT (by omega), cnT, jNc hk, bS, w64 (n := 2 * t.Halves[i]!) (by omega) (by omega), w64 (by omega) (by omega), W_R (by omega) (by omega) hN, bS, qUq (k := 64) (Qf.R (Sz.i64 (by omega) (by omega))) (Sz.i64 (by omega) (by omega)) (by omega) (by omega) (by omega) hN, bS, jK7 (by rw [jY6, List.length_singleton]; omega), bS]
      unfold slQ
      rw [if_pos hk]
    · rw [dF (by omega), cnF, jK7 (by rw [jY6, List.length_singleton]; omega), bS]
      unfold slQ
      rw [if_neg hk]; rfl
  · unfold jV6
    simp only []
    rw [jQk, dF (by omega), cnF]; rfl
end
section
variable {N : Nat} {s : GShip} {d : Int} (h : Fits s) (d0 : 900 ≤ d) (d1 : d ≤ 1100) (hN : 2 ^ 64 ≤ N)
def jDb (s : GShip) (d : Int) (i : Nat) : List jQ3 := (List.range i).map fun k => qYl d s.Stations[k]!
theorem jLf (s : GShip) (d : Int) (i : Nat) : (jDb s d i).length = i := by unfold jDb; simp
theorem jS2 (s : GShip) (d : Int) (i : Nat) : jDb s d (i + 1) = jDb s d i ++ [qYl d s.Stations[i]!] := by unfold jDb; rw [List.range_succ, List.map_append]; rfl
theorem qZ1 {s : GShip} {d : Int} {n i : Nat} (h : i < n) : (jDb s d n)[i]! = qYl d s.Stations[i]! := by
  rw [qH7 (by rw [jLf]; exact h)]
  unfold jDb
  rw [List.getElem_map, List.getElem_range]
include h d0 d1 hN in
theorem sup_L2 : jQ1 (jWp N s d) N ([], 0) = some (jDb s d s.Stations.length) := by
  have hlim : lim ≥ 10000000 := by decide
  have hn := h.n6
  refine jMc (n := s.Stations.length) (fun i => (jDb s d i, (i : Int))) _ (fun i hi => ?_) ?_ (by omega)
  · have hf := h.fit i hi
    have hnh := hf.nh; have hn3 := hf.n3
    unfold jWp
    simp only []
    rw [jQk, dT (by omega), cnT, jNc hi, bS, qBw (by omega), bS, sup_L1 hf d0 d1 hN, bS, whole0 hN, bS]
    simp only []
    rw [jK7 (by rw [jY6, List.length_singleton]; omega), bS, bS, jK7 (by rw [jLf, List.length_singleton]; omega), bS, jLn (by omega), jS2]
    have : jW5 s.Stations[i]! d s.Stations[i]!.Levels.length = jW5 s.Stations[i]! d s.Stations[i]!.Halves.length ++ [R 0] := by
      rw [← hnh, jL0]
      unfold slQ
      rw [if_neg (Nat.lt_irrefl _)]
    unfold qYl jBk
    rw [this]
  · unfold jWp
    simp only []
    rw [jQk, dF (by omega), cnF]
include h d0 d1 hN in
theorem qBj : jQ1 (jWj N s d) N ([], 0) = some (jDb s d s.Stations.length) := by
  have hlim : lim ≥ 10000000 := by decide
  have hn := h.n6
  refine jMc (n := s.Stations.length) (fun i => (jDb s d i, (i : Int))) _ (fun i hi => ?_) ?_ (by omega)
  · have hf := h.fit i hi
    have hnh := hf.nh; have hn3 := hf.n3
    unfold jWj jWu
    simp only []
    rw [jQk, dT (by omega), cnT, jNc hi, bS, jK7 (by rw [List.length_nil]; omega), bS, List.nil_append, bS, qBz hf d0 d1 hN, bS, W_R (by omega) (by omega) hN, bS, jK7 (by rw [jLf, List.length_singleton]; omega), bS, jLn (by omega), jS2]
    rfl
  · unfold jWj
    simp only []
    rw [jQk, dF (by omega), cnF]
end
/- the value of such a curve -/
def posQ (x : Rat) : Rat := if x < 0 then 0 else x
def qZk (t : jJy) (d : Int) (k : Nat) : Rat := if k = 0 then 0 else slQ t d (k - 1)
def vaT (t : jJy) (d : Int) (y : Rat) (k : Nat) : Rat := (slQ t d k - qZk t d k) * posQ (y - lvQ t k)
def qKe (t : jJy) (d : Int) (y : Rat) : Rat := jG9 (vaT t d y) t.Levels.length
theorem qHa {t : jJy} (h : Fit t) {d : Int} (d0 : 900 ≤ d) (d1 : d ≤ 1100) (k : Nat) : Sz 192 (qZk t d k) := by
  unfold qZk
  split
  · exact Sz.zero.mono (by omega)
  · exact slSz h d0 d1 _
theorem qWu {t : jJy} (h : Fit t) {d : Int} (d0 : 900 ≤ d) (k : Nat) : 0 ≤ slQ t d k := by
  unfold slQ
  split
  · rename_i hk
    have hw := (h.hw hk).1
    unfold kgQ
    have h1 : (0 : Rat) ≤ ((2 * t.Halves[k]! * t.Width : Int) : Rat) := by exact_mod_cast hw
    have h2 : (0 : Rat) ≤ (d : Rat) := by exact_mod_cast (by omega : (0 : Int) ≤ d)
    have h3 := Rat.mul_nonneg h1 h2
    rw [Rat.div_def]
    exact Rat.mul_nonneg h3 (by grind)
  · exact Rat.le_refl
theorem qVr {q : Rat} (h : 0 ≤ q) : 0 ≤ qX2 q := by
  unfold qX2
  split
  · grind
  · split <;> omega
theorem qGn {q : Rat} : decide (qX2 q < 0) = decide (q < 0) := by
  unfold qX2
  split
  · rename_i h; rw [dT h]; rfl
  · rename_i h; rw [dF h]; split <;> rfl
section
variable {N : Nat} {t : jJy} {d : Int} (h : Fit t) (d0 : 900 ≤ d) (d1 : d ≤ 1100) (hN : 2 ^ 64 ≤ N)
include h d0 d1 hN in
theorem qGx : jY3 N (jBk t d) = some 0 := by
  have hn := h.nh; have hn3 := h.n3
  have hloop : jQ1 (jVb N (jBk t d)) N 0 = some (.inl ()) := by
    refine jMc (n := t.Levels.length) (fun i => (i : Int)) _ (fun i hi => ?_) ?_ (by omega)
    · have hl := h.l0 i hi
      unfold jVb
      show (bif jJj .lss (i : Int) (t.Levels.length : Int) then ((idx t.Levels (i : Int)).bind fun v2 => (bif (!((jJj .lss v2 (-10000000)) || (jJj .gtr v2 10000000))) then (idx (jW5 t d t.Levels.length) (i : Int)) else some _).bind fun v3 => _) else _) = _
      rw [jQk, dT (by omega), cnT, jNc hi, bS, jQk, jVd, dF (by omega), dF (by omega), Bool.or_self, Bool.not_false, cnT, jNc (by rw [jY6]; exact hi), jMe hi, bS, cnT, jSx (slSz h d0 d1 i) (by omega) hN, bS, jQk, dF (by have := qVr (qWu h d0 (t := t) i); omega), Bool.or_self, cnF, jVd, jLn (by omega)]
      by_cases h0 : i = 0
      · subst h0; rfl
      · have hla := h.la i (by omega) hi
        rw [dT (by omega), cnT]
        show ((idx t.Levels (IntKind.i64.wrap ((i : Int) - 1))).bind fun v5 => _) = _
        rw [idxP hi h0 (by omega), bS, jD5, dF (by omega)]; rfl
    · unfold jVb
      show (bif jJj .lss (t.Levels.length : Int) (t.Levels.length : Int) then _ else _) = _
      rw [jQk, dF (by omega), cnF]
  unfold jY3
  show (bif jJj .gtr (t.Levels.length : Int) 40 then _ else (bif jJj .neq ((jW5 t d t.Levels.length).length : Int) (t.Levels.length : Int) then _ else _)) = _
  rw [jVd, dF (by omega), cnF, jVw, jY6, dT rfl, Bool.not_true, cnF, hloop]; rfl
theorem number_eq {z : Int} (h0 : -9223372036854775808 ≤ z) (h1 : z ≤ 9223372036854775807) (hN : 2 ^ 64 ≤ N) : jUb N z = some (R (z : Rat)) := jWw h0 h1 hN
theorem vaSz (h : Fit t) (d0 : 900 ≤ d) (d1 : d ≤ 1100) {K : Nat} {y : Rat} (hy : Sz K y) {k : Nat} (hk : k < t.Levels.length) : Sz (K + 448) (vaT t d y k) := by
  unfold vaT posQ
  split
  · rw [Rat.mul_zero]; exact Sz.zero.mono (by omega)
  · exact (((slSz h d0 d1 k).sub (qHa h d0 d1 k)).mul (hy.sub (h.lSz hk))).mono (by omega)
theorem va_dry (h : Fit t) {y : Rat} {i k : Nat} (hi : y - lvQ t i < 0) (h1 : i ≤ k) (hk : k < t.Levels.length) : vaT t d y k = 0 := by
  have := h.asc h1 hk
  have h2 : lvQ t i ≤ lvQ t k := by exact_mod_cast this
  unfold vaT posQ
  rw [if_pos (by grind), Rat.mul_zero]
theorem qGj (h : Fit t) (d0 : 900 ≤ d) (d1 : d ≤ 1100) {K : Nat} {y : Rat} (hy : Sz K y) (hK : K ≤ 1000) {i : Nat} (hi : i ≤ t.Levels.length) : Sz 50000 (jG9 (vaT t d y) i) :=
  jFr (c := K + 448) (fun k hk => vaSz h d0 d1 hy hk) hi (Nat.le_trans (Nat.mul_le_mul (show K + 448 ≤ 1448 by omega) h.n3) (by omega))
include h d0 d1 hN in
theorem qU1 {K : Nat} {y : Rat} (hy : Sz K y) (hK : K ≤ 1000) : jUa N (jBk t d) (R y) = some (R (qKe t d y), 0) := by
  have hn := h.nh; have hn3 := h.n3
  unfold jUa
  rw [qGx h d0 d1 hN, bS, jVw, show (!decide ((0 : Int) = 0)) = false from rfl, cnF, number_eq (by omega) (by omega) hN, bS]
  unfold jHt
  rw [bS]
  simp only []
  unfold jKu
  rw [number_eq (by omega) (by omega) hN, bS]
  have hl := qGq (n := t.Levels.length) (N := N) (f := jX3 N (yl (jZ9 N) 0) (jBk t d) (R y)) (fun i => (R (qZk t d i), (i : Int), ((R (jG9 (vaT t d y) i), none) : jQv × Option Nat))) (fun o => Sum.elim some some o = some ((R (qKe t d y), none) : jQv × Option Nat)) (fun i hi => ?_) ?_ (by omega)
  · obtain ⟨o, ho, hp⟩ := hl
    have ho : jQ1 (jX3 N (yl (jZ9 N) 0) (jBk t d) (R y)) N (R ((0 : Int) : Rat), 0, (R ((0 : Int) : Rat), none)) = some o := ho
    rw [ho, bS]
    have hp : Sum.elim (fun l15 => some l15) (fun r16 => some r16) o = some ((R (qKe t d y), none) : jQv × Option Nat) := hp
    rw [hp]; rfl
  · have hl := h.l0 i hi
    have hz := h.lSz hi
    by_cases hd : y - lvQ t i < 0
    · right
      refine ⟨.inr (R (jG9 (vaT t d y) i), none), ?_, ?_⟩
      · unfold jX3
        simp only [jBk]
        rw [jQk, dT (by omega), cnT, jNc hi, bS, number_eq (by omega) (by omega) hN, bS, jLk (Qf.R hy) (Qf.R hz) (by omega) hN, bS, jSx (hy.sub hz) (by omega) hN, bS, jQk, qGn, dT hd]; rfl
      · show some (R (jG9 (vaT t d y) i), none) = some (R (qKe t d y), none)
        unfold qKe
        rw [jRr (Nat.le_of_lt hi) (fun k h1 h2 => va_dry h hd h1 h2)]
    · left
      have z1 := (slSz h d0 d1 i).sub (qHa h d0 d1 i)
      have z2 := hy.sub hz
      have hva : (slQ t d i - qZk t d i) * (y - lvQ t i) = vaT t d y i := by unfold vaT posQ; rw [if_neg hd]
      have hround : yl (jZ9 N) 0 (R (jG9 (vaT t d y) i), none) (R (slQ t d i - qZk t d i), R (y - lvQ t i)) = some ((R (jG9 (vaT t d y) (i + 1)), none), true) := by
        unfold yl jZ9
        simp only []
        rw [jTt (Qf.R z1) (Qf.R z2) (by omega) hN, bS, hva, jYg (Qf.R (qGj h d0 d1 hy hK (Nat.le_of_lt hi))) (Qf.R (vaSz h d0 d1 hy hi)) (by omega) hN]; rfl
      unfold jX3
      simp only [jBk]
      rw [jQk, dT (by omega), cnT, jNc hi, bS, number_eq (by omega) (by omega) hN, bS, jLk (Qf.R hy) (Qf.R hz) (by omega) hN, bS, jSx (hy.sub hz) (by omega) hN, bS, jQk, qGn, dF hd, Bool.not_false, cnT, jNc (by rw [jY6]; exact hi), jMe hi, bS, cnT, jLk (Qf.R (slSz h d0 d1 i)) (Qf.R (qHa h d0 d1 i)) (by omega) hN, bS, cnT, hround, bS, bS, jLn (by omega)]
      rfl
  · refine ⟨.inl (R (qKe t d y), none), ?_, rfl⟩
    unfold jX3
    show (bif jJj .lss (t.Levels.length : Int) (t.Levels.length : Int) then _ else _) = _
    rw [jQk, dF (by omega), cnF]; rfl
end
/- the value is the mass of the water -/
theorem abel {t : jJy} (d : Int) (y : Rat) : ∀ m, jG9 (vaT t d y) m = jG9 (fun k => slQ t d k * (posQ (y - lvQ t k) - posQ (y - lvQ t (k + 1)))) m + qZk t d m * posQ (y - lvQ t m) := by
  intro m
  induction m with
  | zero =>
    show (0 : Rat) = 0 + qZk t d 0 * _
    unfold qZk
    rw [if_pos rfl]; grind
  | succ m ih =>
    show jG9 (vaT t d y) m + vaT t d y m = jG9 _ m + slQ t d m * (posQ (y - lvQ t m) - posQ (y - lvQ t (m + 1))) + qZk t d (m + 1) * posQ (y - lvQ t (m + 1))
    rw [ih]
    have : qZk t d (m + 1) = slQ t d m := by unfold qZk; rw [if_neg (by omega)]; rfl
    rw [this]
    unfold vaT
    grind
theorem qU7 {t : jJy} (h : Fit t) {y : Rat} {k : Nat} (hk : k < t.Halves.length) : posQ (y - lvQ t k) - posQ (y - lvQ t (k + 1)) = qXa t y k := by
  have hn := h.nh
  have := h.la (k + 1) (by omega) (by omega)
  rw [Nat.add_sub_cancel] at this
  have h2 : lvQ t k < lvQ t (k + 1) := by exact_mod_cast this
  unfold posQ qXa qU2
  split <;> split <;> split <;> (try split) <;> grind
theorem kg_add (a b : Rat) (d : Int) : kgQ (a + b) d = kgQ a d + kgQ b d := by unfold kgQ; rw [Rat.div_def, Rat.div_def, Rat.div_def]; grind
theorem qGp (f : Nat → Rat) (d : Int) : ∀ n, jG9 (fun k => kgQ (f k) d) n = kgQ (jG9 f n) d := by
  intro n
  induction n with
  | zero => show (0 : Rat) = kgQ 0 d; unfold kgQ; rw [Rat.div_def]; grind
  | succ n ih => show jG9 _ n + kgQ (f n) d = kgQ (jG9 f n + f n) d; rw [ih, kg_add]
theorem qHb (f : Nat → Rat) (c : Rat) : ∀ n, jG9 (fun k => c * f k) n = c * jG9 f n := by
  intro n
  induction n with
  | zero => show (0 : Rat) = c * 0; grind
  | succ n ih => show jG9 _ n + c * f n = c * (jG9 f n + f n); rw [ih]; grind
theorem qGv {t : jJy} (h : Fit t) (d : Int) (y : Rat) : qKe t d y = kgQ ((t.Width : Rat) * qXx t y) d := by
  have hn := h.nh
  unfold qKe
  rw [abel, ← hn]
  have hp : qZk t d (t.Halves.length + 1) = 0 := by unfold qZk slQ; rw [if_neg (by omega), if_neg (by omega)]
  rw [hp, Rat.zero_mul, Rat.add_zero]
  show jG9 _ t.Halves.length + slQ t d t.Halves.length * _ = _
  have hs : slQ t d t.Halves.length = 0 := by unfold slQ; rw [if_neg (Nat.lt_irrefl _)]
  rw [hs, Rat.zero_mul, Rat.add_zero]
  unfold qXx
  rw [← qHb, ← qGp]
  refine jC1 fun k hk => ?_
  rw [qU7 h hk]
  unfold slQ arT kgQ
  rw [if_pos hk, Rat.div_def, Rat.div_def]
  have : ((2 * t.Halves[k]! * t.Width : Int) : Rat) = ((2 * t.Halves[k]! : Int) : Rat) * (t.Width : Rat) := by push_cast; rfl
  rw [this]
  grind
end Go.KB
