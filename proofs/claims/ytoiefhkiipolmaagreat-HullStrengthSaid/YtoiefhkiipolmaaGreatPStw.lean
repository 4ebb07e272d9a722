/- Plain laws: shear forces and bending moments of the program and of the reference. No condition. -/
import Derived.Test.YtoiefhkiipolmaaGreatPStr
namespace Go.KB
set_option linter.unusedVariables false
set_option maxRecDepth 100000
section
variable {N K k0 : Nat} {s : GShip} {a : GAttitude} {p q : Rat} {d : Int} (hf : Fits s) (hK : K ≤ 1000) (hy : ∀ i, i < s.Stations.length → Sz K (yT s p q i)) (h1 : Qf k0 a.Sink p) (h2 : Qf k0 a.Slope q) (hk0 : k0 ≤ 1000) (d0 : 900 ≤ d) (d1 : d ≤ 1100) (hN : 2 ^ 64 ≤ N)
theorem jLv (hf : Fits s) : evN s ≤ 67 ∧ s.Stations.length ≤ 6 ∧ (jYr s).length ≤ 61 ∧ 1 ≤ (jYr s).length := by
  have h1 := hf.n6
  have h2 := jR4 hf.lds
  unfold evN
  exact ⟨by omega, h1, h2, by simp [jYr]⟩
theorem qUf (hf : Fits s) {k : Nat} (hk : k < evN s) : -1000000 ≤ evX s k ∧ evX s k ≤ 1000000 := by
  unfold evX
  unfold evN at hk
  split
  · rename_i h
    have := hf.fit k h
    exact ⟨this.x0, this.x1⟩
  · have := (jMn hf.lds).2.2 (k - s.Stations.length) (by omega)
    exact ⟨this.x0, this.x1⟩
theorem jT8 (hf : Fits s) {i : Nat} (hi : i < (jW8 s).length) : -1000000 ≤ (jW8 s)[i]! ∧ (jW8 s)[i]! ≤ 1000000 := by
  obtain ⟨j, hj, he⟩ := jSx.1 (show (jW8 s)[i]! ∈ jW8 s by rw [qXt hi]; exact List.getElem_mem _)
  rw [← he]; exact qUf hf hj
theorem qY8 (hf : Fits s) {j : Nat} (hj : j < (jYr s).length) : 0 ≤ (jYr s)[j]!.Mass ∧ (jYr s)[j]!.Mass ≤ 1000000000 := by
  have := (jMn hf.lds).2.2 j hj
  exact ⟨this.m0, this.m1⟩
include hf hK hy d0 d1 in
theorem evSz {k : Nat} (hk : k < evN s) : Sz 9300 (evQ s p q d k) := by
  unfold evQ
  unfold evN at hk
  split
  · rename_i h
    unfold kgQ
    exact (((hf.vSz hK hy h).mul (Sz.i64 (z := d) (by omega) (by omega))).div (Sz.i64 (z := 1000000000) (by omega) (by omega))).mono (by omega)
  · have := qY8 hf (j := k - s.Stations.length) (by omega)
    unfold ldM
    exact (Sz.i64 (by omega) (by omega)).mono (by omega)
include hf hK hy d0 d1 in
theorem atSz {z : Int} {n : Nat} (hn : n ≤ evN s) : Sz 640000 (jKh (atT s p q d z) n) := by
  have h67 := (jLv hf).1
  refine jPy (c := 9300) (n := evN s) (fun k hk => ?_) hn (Nat.le_trans (Nat.mul_le_mul_left _ h67) (by omega))
  unfold atT
  split
  · exact evSz hf hK hy d0 d1 hk
  · exact Sz.zero.mono (by omega)
include hf hK hy d0 d1 in
theorem shSz {z : Int} {n : Nat} (hn : n ≤ evN s) : Sz 640000 (jKh (shT s p q d z) n) := by
  have h67 := (jLv hf).1
  refine jPy (c := 9300) (n := evN s) (fun k hk => ?_) hn (Nat.le_trans (Nat.mul_le_mul_left _ h67) (by omega))
  unfold shT
  split
  · exact evSz hf hK hy d0 d1 hk
  · exact Sz.zero.mono (by omega)
include hf hK hy d0 d1 in
theorem bmSz {z : Int} (hz : -1000000 ≤ z ∧ z ≤ 1000000) {n : Nat} (hn : n ≤ evN s) : Sz 640000 (jKh (bmT s p q d z) n) := by
  have h67 := (jLv hf).1
  refine jPy (c := 9364) (n := evN s) (fun k hk => ?_) hn (Nat.le_trans (Nat.mul_le_mul_left _ h67) (by omega))
  have hb := qUf hf hk
  unfold bmT
  split
  · exact ((evSz hf hK hy d0 d1 hk).mul (Sz.i64 (z := z - evX s k) (by omega) (by omega))).mono (by omega)
  · exact Sz.zero.mono (by omega)
include hf hK hy d0 d1 in
theorem qBb {x : Int} : ∀ k, k ≤ evN s → Qf 640000 (jNu jGe (mpK s p q d k) x) (jKh (atT s p q d x) k) := by
  intro k
  induction k with
  | zero => intro _; exact qf0
  | succ k ih =>
    intro hk
    show Qf _ (jNu jGe (jFy (mpK s p q d k) (evX s k) _) x) (jKh (atT s p q d x) k + atT s p q d x k)
    rw [mgetS]
    by_cases h : x = evX s k
    · subst h
      rw [if_pos rfl]
      exact Qf.R (atSz hf hK hy d0 d1 hk)
    · rw [if_neg h]
      have : atT s p q d x k = 0 := by unfold atT; rw [if_neg (fun e => h e.symm)]
      rw [this, Rat.add_zero]
      exact ih (by omega)
include hf hK hy d0 d1 hN in
theorem qUn {k : Nat} (hk : k < evN s) : jWq N (mpK s p q d k) (evX s k) (R (evQ s p q d k)) = some (mpK s p q d (k + 1)) := by
  unfold jWq
  have hg := qBb hf hK hy d0 d1 (x := evX s k) k (by omega)
  unfold jGe at hg
  rw [jH6 hg (Qf.R (evSz hf hK hy d0 d1 hk)) (by omega) hN, bS]
  have : jKh (atT s p q d (evX s k)) k + evQ s p q d k = jKh (atT s p q d (evX s k)) (k + 1) := by
    show _ = jKh (atT s p q d (evX s k)) k + atT s p q d (evX s k) k
    unfold atT
    rw [if_pos rfl]
  rw [this]; rfl
include hf hK hy h1 h2 hk0 d0 d1 hN in
theorem str_L4 : jQ7 (jW3 N s a d) N (0, []) = some (mpK s p q d s.Stations.length) := by
  have h6 := (jLv hf).2.1
  refine jMl (n := s.Stations.length) (fun i => ((i : Int), mpK s p q d i)) _ (fun i hi => ?_) ?_ (by omega)
  · have hft := hf.fit i hi
    have hx0 := hft.x0; have hx1 := hft.x1; have hw0 := hft.w0; have hw1 := hft.w1
    have hyi := hy i hi
    have hA : Sz 9000 (jTd s.Stations[i]! (yT s p q i)) := hf.aSz hK hy hi
    have hW : Sz 64 ((s.Stations[i]!.Width : Int) : Rat) := Sz.i64 (by omega) (by omega)
    have hV := hf.vSz hK hy hi
    have hx : s.Stations[i]!.X = evX s i := by unfold evX; rw [if_pos hi]
    have hq : kgQ (tV s p q i) d = evQ s p q d i := by unfold evQ; rw [if_pos hi]
    unfold jW3
    simp only []
    rw [jQy, dT (by omega), cnT, jP3 hi, bS, jUj (by omega) (by omega) hN, bS, qY2 h1 h2 (by omega) (by omega) (by omega) hN, bS, show jP7 p q s.Stations[i]!.X = yT s p q i from rfl, qX2 hft hyi (by omega) hN, bS, jA2 (Qf.R hW) (Qf.R hA) hW hA (by omega) hN, bS, show ((s.Stations[i]!.Width : Int) : Rat) * jTd s.Stations[i]! (yT s p q i) = tV s p q i from rfl, qD4 (Qf.R hV) hV (by omega) (by omega) (by omega) hN, bS, hx, hq, qUn hf hK hy d0 d1 hN (by unfold evN; omega), bS, jLn (by omega)]
  · unfold jW3
    simp only []
    rw [jQy, dF (by omega), cnF]
include hf hK hy d0 d1 hN in
theorem str_L3 : jQ7 (jW1 N (jYr s)) N (0, mpK s p q d s.Stations.length) = some (mpK s p q d (evN s)) := by
  obtain ⟨e1, e2, e3, e4⟩ := jLv hf
  refine jMl (n := (jYr s).length) (fun j => ((j : Int), mpK s p q d (s.Stations.length + j))) _ (fun j hj => ?_) ?_ (by omega)
  · have hb := qY8 hf hj
    have hx : (jYr s)[j]!.X = evX s (s.Stations.length + j) := by unfold evX; rw [if_neg (by omega), Nat.add_sub_cancel_left]
    have hq : ((0 - (jYr s)[j]!.Mass : Int) : Rat) = evQ s p q d (s.Stations.length + j) := by unfold evQ ldM; rw [if_neg (by omega), Nat.add_sub_cancel_left, Int.zero_sub]
    unfold jW1
    simp only []
    rw [jQy, dT (by omega), cnT, jP3 hj, bS, w64 (by omega) (by omega), jUj (by omega) (by omega) hN, bS, hx, hq, qUn hf hK hy d0 d1 hN (by unfold evN; omega), bS, jLn (by omega)]; rfl
  · unfold jW1
    simp only []
    rw [jQy, dF (by omega), cnF]; rfl
/- the keys -/
theorem qUr {N : Nat} : ∀ (π : List (Int × jQv)) (acc : List Int), acc.length + π.length ≤ 1000000 → qU3 (jVq N) π acc = some (acc ++ π.map (·.1)) := by
  have hlim : lim ≥ 10000000 := by decide
  intro π
  induction π with
  | nil => intro acc _; show some acc = _; rw [List.map_nil, List.append_nil]
  | cons x π ih =>
    intro acc h
    rw [List.length_cons] at h
    have e : jVq N acc x = some (acc ++ [x.1]) := by
      unfold jVq
      rw [jK8 (by rw [List.length_singleton]; omega), bS]
    show (jVq N acc x).bind (qU3 (jVq N) π) = _
    rw [e, bS, ih _ (by rw [List.length_append, List.length_singleton]; omega), List.append_assoc]; rfl
theorem qZr {l : List Int} (hn : l.Nodup) (hm : ∀ z, z ∈ l ↔ z ∈ jW8 s) : qJv l = jW8 s := by
  have hp := jN4 l
  refine qDh ?_ jMw fun z => by rw [hp.mem_iff, hm]
  have h1 := jSf l
  have h2 : (qJv l).Nodup := hp.nodup_iff.2 hn
  have := h1.and h2
  exact this.imp fun ⟨a, b⟩ => by omega
def qX1 (s : GShip) (p q : Rat) (d : Int) (i : Nat) : List jXy := (List.range i).map fun k => ⟨(jW8 s)[k]!, R (shQ s p q d (jW8 s)[k]!), R (bmQ s p q d (jW8 s)[k]!)⟩
theorem jRd (i : Nat) : (qX1 s p q d i).length = i := by unfold qX1; simp
theorem qXg (i : Nat) : qX1 s p q d (i + 1) = qX1 s p q d i ++ [⟨(jW8 s)[i]!, R (shQ s p q d (jW8 s)[i]!), R (bmQ s p q d (jW8 s)[i]!)⟩] := by unfold qX1; rw [List.range_succ, List.map_append]; rfl
def qG8 (s : GShip) (p q : Rat) (d : Int) (i : Nat) : Rat := if i = 0 then 0 else shQ s p q d (jW8 s)[i - 1]!
def qHn (s : GShip) (p q : Rat) (d : Int) (i : Nat) : Rat := if i = 0 then 0 else bmQ s p q d (jW8 s)[i - 1]!
include hf hK hy d0 d1 hN in
theorem str_L1 : jQ7 (jVr N (mpK s p q d (evN s)) (jW8 s)) N ([], R 0, R 0, 0) = some (qX1 s p q d (jW8 s).length) := by
  have hlim : lim ≥ 10000000 := by decide
  obtain ⟨e1, e2, e3, e4⟩ := jLv hf
  have hpl := jRb (s := s)
  refine jMl (n := (jW8 s).length) (fun i => (qX1 s p q d i, R (qG8 s p q d i), R (qHn s p q d i), (i : Int))) _ (fun i hi => ?_) ?_ (by omega)
  · have hb := jT8 hf hi
    have hg := qBb hf hK hy d0 d1 (x := (jW8 s)[i]!) (evN s) (Nat.le_refl _)
    unfold jGe at hg
    have zS : Sz 640000 (qG8 s p q d i) := by
      unfold qG8; split
      · exact Sz.zero.mono (by omega)
      · exact shSz hf hK hy d0 d1 (Nat.le_refl _)
    have zM : Sz 640000 (qHn s p q d i) := by
      unfold qHn; split
      · exact Sz.zero.mono (by omega)
      · exact bmSz hf hK hy d0 d1 (jT8 hf (by omega)) (Nat.le_refl _)
    have hsh : qG8 s p q d i + jKh (atT s p q d (jW8 s)[i]!) (evN s) = shQ s p q d (jW8 s)[i]! := by
      unfold qG8
      by_cases h0 : i = 0
      · rw [if_pos h0, qHf hi h0]
      · rw [if_neg h0, qBm hi (by omega)]
    have hn1 : qG8 s p q d (i + 1) = shQ s p q d (jW8 s)[i]! := by unfold qG8; rw [if_neg (by omega)]; rfl
    have hn2 : qHn s p q d (i + 1) = bmQ s p q d (jW8 s)[i]! := by unfold qHn; rw [if_neg (by omega)]; rfl
    have hbm : ((bif (jJj .gtr (i : Int) 0) then ((idx (jW8 s) (IntKind.i64.wrap ((i : Int) - 1))).bind fun v32 => (jJ8 N (IntKind.i64.wrap ((jW8 s)[i]! - v32))).bind fun v33 => (jXm N [R (qG8 s p q d i), v33]).bind fun v34 => (jQ3 N (R (qHn s p q d i)) v34).bind fun v35 => some v35) else (some (R (qHn s p q d i)))) : Option jQv) = some (R (bmQ s p q d (jW8 s)[i]!)) := by
      rw [jVm]
      by_cases h0 : i = 0
      · rw [dF (by omega), cnF, qGk hi h0]
        unfold qHn
        rw [if_pos h0]
      · have hb2 := jT8 hf (s := s) (i := i - 1) (by omega)
        have hz : Sz 64 (((jW8 s)[i]! - (jW8 s)[i - 1]! : Int) : Rat) := Sz.i64 (by omega) (by omega)
        rw [dT (by omega), cnT, idxP hi h0 (by omega), bS, w64 (by omega) (by omega), jUj (by omega) (by omega) hN, bS, jA2 (Qf.R zS) (Qf.R hz) zS hz (by omega) hN, bS, jH6 (Qf.R zM) (Qf.R (zS.mul hz)) (by omega) hN, bS, qDa hi (by omega)]
        unfold qG8 qHn
        rw [if_neg h0, if_neg h0]
    unfold jVr
    simp only []
    rw [jQy, dT (by omega), cnT, jP3 hi, bS, hbm, bS, jH6 (Qf.R zS) hg (by omega) hN, bS, hsh, jK8 (by rw [jRd, List.length_singleton]; omega), bS, jLn (by omega), qXg, hn1, hn2]
  · unfold jVr
    simp only []
    rw [jQy, dF (by omega), cnF]
include hf hK hy h1 h2 hk0 d0 d1 hN in
theorem qZz (hfl : jWg N s d = some 0) : jVa N s a d = some (qX1 s p q d (jW8 s).length, 0) := by
  obtain ⟨e1, e2, e3, e4⟩ := jLv hf
  have hpl := jRb (s := s)
  have hit : s.Items.length ≤ 1000 := by have := (jMn hf.lds).1; omega
  have hw0 : jJ8 N 0 = some (R 0) := by rw [jUj (by omega) (by omega) hN]; rfl
  unfold jVa
  rw [hfl, bS, jV4, show (!decide ((0 : Int) = 0)) = false from rfl, cnF, str_L4 hf hK hy h1 h2 hk0 d0 d1 hN, bS, qU7 hit hN, bS, str_L3 hf hK hy d0 d1 hN, bS]
  refine qUa fun π hπ => ?_
  obtain ⟨k1, k2⟩ := qHb (s := s) (p := p) (q := q) (d := d) (evN s)
  have hp : (π.map (·.1)).Perm ((mpK s p q d (evN s)).map (·.1)) := hπ.map _
  have hmem : ∀ z, z ∈ π.map (·.1) ↔ z ∈ jW8 s := fun z => by rw [hp.mem_iff, k2, jSx]
  have hso := qZr (s := s) (hp.nodup_iff.2 k1) hmem
  have hlen : (π.map (·.1)).length = (jW8 s).length := by rw [← hso]; exact (jN4 _).length_eq.symm
  have hne : 1 ≤ (jW8 s).length := by
    have : evX s 0 ∈ jW8 s := jSx.2 ⟨0, by unfold evN; omega, rfl⟩
    exact List.length_pos_of_mem this
  rw [qUr π [] (by rw [List.length_map] at hlen; rw [List.length_nil]; omega), bS, List.nil_append]
  unfold jWf qG9
  rw [show (Nat.ble 1 (π.map (·.1)).length && Nat.ble (π.map (·.1)).length 1000000) = true by rw [Bool.and_eq_true, Nat.ble_eq, Nat.ble_eq]; omega, cnT, bS, hso, hw0, bS, bS, str_L1 hf hK hy d0 d1 hN, bS]
/- the reference -/
include hf hN in
theorem qDj : jQ7 (jVg N (jYr s)) N ([], 0) = some (jTe ((jYr s).map (·.X)) []) := by
  obtain ⟨e1, e2, e3, e4⟩ := jLv hf
  have := jMl (n := (jYr s).length) (N := N) (f := jVg N (jYr s)) (fun j => (jTe (((jYr s).take j).map (·.X)) [], (j : Int))) (jTe ((jYr s).map (·.X)) []) (fun j hj => ?_) ?_ (by omega)
  · exact this
  · have hp := jRa (l := ((jYr s).take j).map (·.X)) (acc := [])
    rw [List.length_map, List.length_take, List.length_nil] at hp
    have hmin : min j (jYr s).length ≤ 61 := by omega
    unfold jVg
    simp only []
    rw [jQy, dT (by omega), cnT, jP3 hj, bS, qUj (by omega) hN, bS, jLn (by omega), List.take_succ_eq_append_getElem hj, List.map_append, qVx, qXt hj]; rfl
  · unfold jVg
    simp only []
    rw [jQy, dF (by omega), cnF, List.take_length]
include hf hN in
theorem qDp : jQ7 (jVu N s) N (jTe ((jYr s).map (·.X)) [], 0) = some (jW8 s) := by
  obtain ⟨e1, e2, e3, e4⟩ := jLv hf
  have := jMl (n := s.Stations.length) (N := N) (f := jVu N s) (fun j => (jTe ((s.Stations.take j).map (·.X)) (jTe ((jYr s).map (·.X)) []), (j : Int))) (jW8 s) (fun j hj => ?_) ?_ (by omega)
  · exact this
  · have hp0 := jRa (l := (jYr s).map (·.X)) (acc := [])
    have hp := jRa (l := (s.Stations.take j).map (·.X)) (acc := jTe ((jYr s).map (·.X)) [])
    rw [List.length_map, List.length_nil] at hp0
    rw [List.length_map, List.length_take] at hp
    have hmin : min j s.Stations.length ≤ 6 := by omega
    unfold jVu
    simp only []
    rw [jQy, dT (by omega), cnT, jP3 hj, bS, qUj (by omega) hN, bS, jLn (by omega), List.take_succ_eq_append_getElem hj, List.map_append, qVx, qXt hj]; rfl
  · unfold jVu
    simp only []
    rw [jQy, dF (by omega), cnF, List.take_length]; rfl
include hf hK hy d0 d1 hN in
theorem qUw {z : Int} (hz : -1000000 ≤ z ∧ z ≤ 1000000) {k : Nat} (hk : k < evN s) : jHm N ⟨z, R (jKh (shT s p q d z) k), R (jKh (bmT s p q d z) k)⟩ (evX s k) (R (evQ s p q d k)) = some ⟨z, R (jKh (shT s p q d z) (k + 1)), R (jKh (bmT s p q d z) (k + 1))⟩ := by
  have hb := qUf hf hk
  have hs1 : jKh (shT s p q d z) (k + 1) = jKh (shT s p q d z) k + shT s p q d z k := rfl
  have hs2 : jKh (bmT s p q d z) (k + 1) = jKh (bmT s p q d z) k + bmT s p q d z k := rfl
  unfold jHm
  simp only []
  rw [jVm]
  by_cases h : evX s k ≤ z
  · have hd : Sz 64 ((z - evX s k : Int) : Rat) := Sz.i64 (by omega) (by omega)
    have he := evSz hf hK hy d0 d1 hk
    have z1 := shSz hf hK hy d0 d1 (z := z) (n := k) (by omega)
    have z2 := bmSz hf hK hy d0 d1 hz (n := k) (by omega)
    have v1 : shT s p q d z k = evQ s p q d k := by unfold shT; rw [if_pos h]
    have v2 : bmT s p q d z k = evQ s p q d k * ((z - evX s k : Int) : Rat) := by unfold bmT; rw [if_pos h]
    rw [dF (by omega), cnF, jU1 (Qf.R z1) (Qf.R he) (by omega) hN, bS, w64 (by omega) (by omega), W_R (by omega) (by omega) hN, bS, jHs (Qf.R he) (Qf.R hd) (by omega) hN, bS, jU1 (Qf.R z2) (Qf.R (he.mul hd)) (by omega) hN, bS, hs1, hs2, v1, v2]
  · have v1 : shT s p q d z k = 0 := by unfold shT; rw [if_neg h]
    have v2 : bmT s p q d z k = 0 := by unfold bmT; rw [if_neg h]
    rw [dT (by omega), cnT, hs1, hs2, v1, v2, Rat.add_zero, Rat.add_zero]
include hf hK hy h1 h2 hk0 d0 d1 hN in
theorem qDs {z : Int} (hz : -1000000 ≤ z ∧ z ≤ 1000000) : jQ7 (jWk N s a d) N (⟨z, R 0, R 0⟩, 0) = some ⟨z, R (jKh (shT s p q d z) s.Stations.length), R (jKh (bmT s p q d z) s.Stations.length)⟩ := by
  have h6 := (jLv hf).2.1
  refine jMl (n := s.Stations.length) (fun i => ((⟨z, R (jKh (shT s p q d z) i), R (jKh (bmT s p q d z) i)⟩ : jXy), (i : Int))) _ (fun i hi => ?_) ?_ (by omega)
  · have hft := hf.fit i hi
    have hx0 := hft.x0; have hx1 := hft.x1; have hw0 := hft.w0; have hw1 := hft.w1
    have hyi := hy i hi
    have hA : Sz 9000 (jTd s.Stations[i]! (yT s p q i)) := hf.aSz hK hy hi
    have hW : Sz 64 ((s.Stations[i]!.Width : Int) : Rat) := Sz.i64 (by omega) (by omega)
    have hV := hf.vSz hK hy hi
    have hx : s.Stations[i]!.X = evX s i := by unfold evX; rw [if_pos hi]
    have hq : kgQ (tV s p q i) d = evQ s p q d i := by unfold evQ; rw [if_pos hi]
    unfold jWk
    simp only []
    rw [jQy, dT (by omega), cnT, jP3 hi, bS, W_R (by omega) (by omega) hN, bS, qJz h1 h2 (by omega) (by omega) (by omega) hN, bS, show jP7 p q s.Stations[i]!.X = yT s p q i from rfl, qV2 hft hyi (by omega) hN, bS, jHs (Qf.R hW) (Qf.R hA) (by omega) hN, bS, show ((s.Stations[i]!.Width : Int) : Rat) * jTd s.Stations[i]! (yT s p q i) = tV s p q i from rfl, qVu (Qf.R hV) hV (by omega) (by omega) (by omega) hN, bS, hx, hq, qUw hf hK hy d0 d1 hN hz (by unfold evN; omega), bS, jLn (by omega)]
  · unfold jWk
    simp only []
    rw [jQy, dF (by omega), cnF]
include hf hK hy d0 d1 hN in
theorem qDl {z : Int} (hz : -1000000 ≤ z ∧ z ≤ 1000000) : jQ7 (jV8 N (jYr s)) N (⟨z, R (jKh (shT s p q d z) s.Stations.length), R (jKh (bmT s p q d z) s.Stations.length)⟩, 0) = some ⟨z, R (shQ s p q d z), R (bmQ s p q d z)⟩ := by
  obtain ⟨e1, e2, e3, e4⟩ := jLv hf
  refine jMl (n := (jYr s).length) (fun j => ((⟨z, R (jKh (shT s p q d z) (s.Stations.length + j)), R (jKh (bmT s p q d z) (s.Stations.length + j))⟩ : jXy), (j : Int))) _ (fun j hj => ?_) ?_ (by omega)
  · have hb := qY8 hf hj
    have hx : (jYr s)[j]!.X = evX s (s.Stations.length + j) := by unfold evX; rw [if_neg (by omega), Nat.add_sub_cancel_left]
    have hq : ((0 - (jYr s)[j]!.Mass : Int) : Rat) = evQ s p q d (s.Stations.length + j) := by unfold evQ ldM; rw [if_neg (by omega), Nat.add_sub_cancel_left, Int.zero_sub]
    unfold jV8
    simp only []
    rw [jQy, dT (by omega), cnT, jP3 hj, bS, bS, w64 (by omega) (by omega), W_R (by omega) (by omega) hN, bS, hx, hq, qUw hf hK hy d0 d1 hN hz (by unfold evN; omega), bS, jLn (by omega)]; rfl
  · unfold jV8
    simp only []
    rw [jQy, dF (by omega), cnF]; rfl
include hf hK hy h1 h2 hk0 d0 d1 hN in
theorem qBa : jQ7 (jWv N s a d (jYr s) (jW8 s)) N ([], 0) = some (qX1 s p q d (jW8 s).length) := by
  have hlim : lim ≥ 10000000 := by decide
  obtain ⟨e1, e2, e3, e4⟩ := jLv hf
  have hpl := jRb (s := s)
  have hw0 : jZw N 0 = some (R 0) := by rw [W_R (by omega) (by omega) hN]; rfl
  refine jMl (n := (jW8 s).length) (fun i => (qX1 s p q d i, (i : Int))) _ (fun i hi => ?_) ?_ (by omega)
  · have hb := jT8 hf hi
    unfold jWv
    simp only []
    rw [jQy, dT (by omega), cnT, jP3 hi, bS, hw0, bS, bS, qDs hf hK hy h1 h2 hk0 d0 d1 hN hb, bS, qDl hf hK hy d0 d1 hN hb, bS, jK8 (by rw [jRd, List.length_singleton]; omega), bS, jLn (by omega), qXg]
  · unfold jWv
    simp only []
    rw [jQy, dF (by omega), cnF]
include hf hK hy h1 h2 hk0 d0 d1 hN in
theorem qQs : jUb N s a d = some (qX1 s p q d (jW8 s).length) := by
  have hit : s.Items.length ≤ 1000 := by have := (jMn hf.lds).1; omega
  unfold jUb
  rw [qKk hit, bS, qDj hf hN, bS, qDp hf hN, bS, qBa hf hK hy h1 h2 hk0 d0 d1 hN]; rfl
/- the last shear force -/
theorem qHl (f : Nat → Int) : ∀ n, jKh (fun k => ((-(f k) : Int) : Rat)) n = -((jC6 f n : Int) : Rat) := by
  intro n
  induction n with
  | zero => show (0 : Rat) = -((0 : Int) : Rat); simp
  | succ n ih =>
    show jKh _ n + ((-(f n) : Int) : Rat) = -((jC6 f n + f n : Int) : Rat)
    rw [ih]
    push_cast
    grind
theorem qB1 (x y : Rat) (d : Int) : kgQ (x + y) d = kgQ x d + kgQ y d := by unfold kgQ; rw [Rat.div_def, Rat.div_def, Rat.div_def]; grind
theorem qB8 (f : Nat → Rat) (d : Int) : ∀ n, jKh (fun k => kgQ (f k) d) n = kgQ (jKh f n) d := by
  intro n
  induction n with
  | zero => show (0 : Rat) = kgQ 0 d; unfold kgQ; rw [Rat.div_def]; grind
  | succ n ih => show jKh _ n + kgQ (f n) d = kgQ (jKh f n + f n) d; rw [ih, qB1]
theorem ev_sum : jKh (evQ s p q d) (evN s) = kgQ (vQ s p q) d - ((jNn s : Int) : Rat) := by
  unfold evN vQ jNn
  rw [qW1, ← qB8, Rat.sub_eq_add_neg, ← qHl]
  congr 1
  · refine jFu fun k hk => ?_
    unfold evQ
    rw [if_pos hk]
  · refine jFu fun k hk => ?_
    unfold evQ
    rw [if_neg (by omega), Nat.add_sub_cancel_left]
end
end Go.KB
