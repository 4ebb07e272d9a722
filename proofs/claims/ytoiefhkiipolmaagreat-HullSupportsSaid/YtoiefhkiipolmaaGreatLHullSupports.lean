/- The plain law of HullSupports: it returns true for every ship, attitude and density. No condition. -/
import Derived.Test.YtoiefhkiipolmaaGreatPSup
namespace Go.KB
set_option linter.unusedVariables false
set_option maxRecDepth 100000
theorem qUh {N : Nat} {l : List Int} (hl : l.length < 1000000) (hN : 2 ^ 64 ≤ N) : jD9 N l l = some true := by
  unfold jD9
  have hloop : jQ1 (jUm N l l) N 0 = some (.inl ()) := by
    refine jMc (n := l.length) (fun i => (i : Int)) _ (fun i hi => ?_) ?_ (by omega)
    · unfold jUm
      rw [jQk, dT (by omega), cnT, jNc hi, bS, bS, jVw, dT rfl, Bool.not_true, cnF, jLn (by omega)]
    · unfold jUm
      rw [jQk, dF (by omega), cnF]
  rw [jVw, dT rfl, Bool.not_true, cnF, hloop]; rfl
theorem qZ4 {N : Nat} {t : jJy} {d : Int} (h : Fit t) (d0 : 900 ≤ d) (d1 : d ≤ 1100) {n : Nat} (hn : n < 1000000) (hN : 2 ^ 64 ≤ N) : jGz N (jW5 t d n) (jW5 t d n) = some true := by
  unfold jGz
  have hl := jY6 t d n
  have hloop : jQ1 (jWr N (jW5 t d n) (jW5 t d n)) N 0 = some (.inl ()) := by
    refine jMc (n := n) (fun i => (i : Int)) _ (fun i hi => ?_) ?_ (by omega)
    · unfold jWr
      rw [jQk, dT (by omega), cnT, jNc (by omega), bS, bS, jMe hi, jS0 (slSz h d0 d1 i) (by omega) hN, dT rfl, bS, Bool.not_true, cnF, jLn (by omega)]
    · unfold jWr
      rw [jQk, dF (by omega), cnF]
  rw [jVw, dT rfl, Bool.not_true, cnF, hloop]; rfl
def qUy (s : GShip) (p q : Rat) (d : Int) (k : Nat) : Rat := qKe s.Stations[k]! d (yT s p q k)
theorem qY8 {N : Nat} {s : GShip} {a : GAttitude} {p q : Rat} {d : Int} (h : Fits s) (q1 : Qf 32 a.Sink p) (q2 : Qf 32 a.Slope q) (d0 : 900 ≤ d) (d1 : d ≤ 1100) (hN : 2 ^ 64 ≤ N) :
    jQ1 (jZ0 N a (jDb s d s.Stations.length, 0) (jDb s d s.Stations.length)) N (R ((0 : Int) : Rat), 0) = some (.inl (R (jG9 (qUy s p q d) s.Stations.length))) := by
  have h6 := h.n6
  refine jMc (n := s.Stations.length) (fun i => (R (jG9 (qUy s p q d) i), (i : Int))) _ (fun i hi => ?_) ?_ (by omega)
  · have hf := h.fit i hi
    have hx0 := hf.x0; have hx1 := hf.x1; have hn3 := hf.n3
    have hy : Sz (2 * 32 + 98) (yT s p q i) := h.y32 q1 q2 i hi
    have hl := jLf s d s.Stations.length
    have hS : Sz 300000 (jG9 (qUy s p q d) i) := jFr (c := 50000) (n := s.Stations.length) (fun k hk => qGj (h.fit k hk) d0 d1 (h.y32 q1 q2 k hk) (by omega) (Nat.le_refl _)) (Nat.le_of_lt hi) (Nat.le_trans (Nat.mul_le_mul_left _ h6) (by omega))
    have hv : Sz 50000 (qUy s p q d i) := qGj hf d0 d1 hy (by omega) (Nat.le_refl _)
    have hC : jX7 N (R 0) (R 0) = some true := by rw [jS0 Sz.zero (by omega) hN, dT rfl]
    have hcur : jUx N (jBk s.Stations[i]! d) (jBk s.Stations[i]! d) = some true := by
      unfold jUx
      simp only [jBk]
      rw [qUh (by omega) hN, bS, cnT, qZ4 hf d0 d1 (by omega) hN]; rfl
    unfold jZ0
    simp only []
    rw [hl, jQk, dT (by omega), cnT]
    simp only [jNc (show i < (jDb s d s.Stations.length).length by omega), qZ1 hi, bS]
    simp only [qYl]
    rw [jVw, dT rfl]
    simp only [Bool.not_true, Bool.not_false, cnT, Bool.false_or, bS]
    rw [hC, bS]
    simp only [Bool.not_true, Bool.not_false, cnT, bS]
    rw [hcur, bS, Bool.not_true, Bool.or_self, cnF, qG7 q1 q2 (by omega) (by omega) (by omega) hN, bS, show ySet p q s.Stations[i]!.X = yT s p q i from rfl, qU1 hf d0 d1 hN (K := 2 * 32 + 98) hy (by omega), bS]
    simp only []
    rw [jVw, show (!decide ((0 : Int) = 0)) = false from rfl, cnF, show qKe s.Stations[i]! d (yT s p q i) = qUy s p q d i from rfl, qZe (Qf.R hS) (Qf.R hv) (by omega) hN, bS, jLn (by omega)]; rfl
  · unfold jZ0
    simp only []
    rw [jLf, jQk, dF (by omega), cnF]
theorem qUd {s : GShip} {p q : Rat} {d : Int} (h : Fits s) : jG9 (qUy s p q d) s.Stations.length = kgQ (vQ s p q) d := by
  unfold vQ
  rw [← qGp]
  refine jC1 fun k hk => ?_
  unfold qUy
  rw [qGv (h.fit k hk)]; rfl
theorem law_HullSupports (x0 : GShip) (x1 : GAttitude) (x2 : Int) (h0 : x0.ok) (h1 : x1.ok) (h2 : gI .i64 x2) : jKw (2 ^ 70) x0 x1 x2 = some true := by
  have hN : 2 ^ 64 ≤ (2 ^ 70 : Nat) := by decide
  unfold jKw
  rw [qZ9, bS, Bool.not_true, cnF]
  obtain ⟨b, hb, ht⟩ := qU6 (s := x0) hN
  obtain ⟨c, hc, hq⟩ := att_eq (N := 2 ^ 70) h1
  rw [hb, bS]
  cases b with
  | false => rfl
  | true =>
    rw [Bool.not_true, Bool.not_false, cnT, hc, bS]
    cases c with
    | false => rfl
    | true =>
      have ht := ht rfl
      obtain ⟨q1, q2⟩ := hq rfl
      rw [Bool.not_true, Bool.or_false, cnF, qY7 ht hN, bS]
      have hsup : jGk (2 ^ 70) x0 x2 = some (if jRb x0 x2 = 0 then (jDb x0 x2 x0.Stations.length, 0) else ([], jRb x0 x2)) := by
        unfold jGk
        rw [jAq ht hN, bS, jVw]
        by_cases hz : jRb x0 x2 = 0
        · obtain ⟨hs, hd⟩ := both_ok hz
          obtain ⟨d0, d1⟩ := qQ8 hd
          rw [dT hz, if_pos hz, Bool.not_true, cnF, sup_L2 (Fits.of ht hs) d0 d1 hN]; rfl
        · rw [dF hz, if_neg hz]; rfl
      rw [hsup, bS, qH2 ht hN, bS, jVw]
      by_cases hz : jRb x0 x2 = 0
      · obtain ⟨hs, hd⟩ := both_ok hz
        obtain ⟨d0, d1⟩ := qQ8 hd
        have hf := Fits.of ht hs
        have hrs : jK8 (2 ^ 70) x0 x2 = some (jDb x0 x2 x0.Stations.length) := by
          unfold jK8
          rw [qBj hf d0 d1 hN]; rfl
        have h6 := hf.n6
        have hS : Sz 300000 (jG9 (qUy x0 (rv x1.Sink) (rv x1.Slope) x2) x0.Stations.length) := jFr (c := 50000) (n := x0.Stations.length) (fun k hk => qGj (hf.fit k hk) d0 d1 (hf.y32 q1 q2 k hk) (by omega) (Nat.le_refl _)) (Nat.le_refl _) (Nat.le_trans (Nat.mul_le_mul_left _ h6) (by omega))
        rw [dT hz, if_pos hz, Bool.not_true, cnF, hrs, bS]
        simp only []
        rw [jVw, jVw, dT rfl, dT rfl, Bool.not_true, Bool.or_self, cnF, W_R (by omega) (by omega) hN, bS, qY8 hf q1 q2 d0 d1 hN, bS, Sum.elim_inl, Hyd_eq ht q1 q2 (by omega) hN, bS, if_pos hz]
        have hsum := qUd (p := rv x1.Sink) (q := rv x1.Slope) (d := x2) hf
        by_cases hV : vQ x0 (rv x1.Sink) (rv x1.Slope) = 0
        · rw [if_pos hV]
          simp only []
          rw [jU9, dT rfl, cnT, qQ9 (Qf.R hS) (by omega) hN, bS, hsum, hV]
          have : kgQ 0 x2 = 0 := by unfold kgQ; rw [Rat.div_def]; grind
          rw [this]; rfl
        · rw [if_neg hV]
          simp only []
          rw [jU9, show decide ((0 : Int) = 29) = false from rfl, cnF, jU9, show decide ((0 : Int) = 0) = true from rfl, cnT]
          show ((jX7 (2 ^ 70) (R (jG9 (qUy x0 (rv x1.Sink) (rv x1.Slope) x2) x0.Stations.length)) (R (kgQ (vQ x0 (rv x1.Sink) (rv x1.Slope)) x2))).bind fun v32 => some (true && v32)) = some true
          rw [jS0 hS (by omega) hN, hsum, dT rfl]; rfl
      · rw [dF hz, if_neg hz]
        simp only []
        rw [Bool.not_false, cnT, jU9, dT rfl]; rfl
end Go.KB
