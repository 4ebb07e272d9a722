/- The plain law of HullStrength: it returns true for every ship, attitude and density. No condition. -/
import Derived.Test.YtoiefhkiipolmaaGreatPStw
namespace Go.KB
set_option linter.unusedVariables false
set_option maxRecDepth 100000
theorem sameZ3 : jBu (2 ^ 70) [jGe, jGe, jGe] [jGe, jGe, jGe] = some true := by kernel_rfl
theorem qV8 {s : GShip} {p q : Rat} {d : Int} {n i : Nat} (h : i < n) : idx (qX1 s p q d n) (i : Int) = some ⟨(jW8 s)[i]!, R (shQ s p q d (jW8 s)[i]!), R (bmQ s p q d (jW8 s)[i]!)⟩ := by
  unfold qX1
  rw [jH1 (by simp; exact h), List.getElem_map, List.getElem_range]
theorem qGx {N K : Nat} {s : GShip} {p q : Rat} {d : Int} (hf : Fits s) (hK : K ≤ 1000) (hy : ∀ i, i < s.Stations.length → Sz K (yT s p q i)) (d0 : 900 ≤ d) (d1 : d ≤ 1100) (hN : 2 ^ 64 ≤ N) :
    jQ7 (jZ8 N (qX1 s p q d (jW8 s).length, 0) (qX1 s p q d (jW8 s).length)) N 0 = some (.inl ()) := by
  obtain ⟨e1, e2, e3, e4⟩ := jLv hf
  have hpl := jRb (s := s)
  refine jMl (n := (jW8 s).length) (fun i => (i : Int)) _ (fun i hi => ?_) ?_ (by omega)
  · have hb := jT8 hf hi
    have z1 : Sz 640000 (shQ s p q d (jW8 s)[i]!) := shSz hf hK hy d0 d1 (Nat.le_refl _)
    have z2 : Sz 640000 (bmQ s p q d (jW8 s)[i]!) := bmSz hf hK hy d0 d1 hb (Nat.le_refl _)
    unfold jZ8
    simp only []
    rw [jRd, jQy, dT (by omega), cnT]
    simp only [qV8 hi, bS]
    rw [jV4, dT rfl]
    simp only [Bool.not_true, Bool.not_false, cnT, Bool.false_or, bS]
    rw [jBm z1 (by omega) hN, dT rfl]
    simp only [Bool.not_true, Bool.not_false, cnT, bS]
    rw [jBm z2 (by omega) hN, dT rfl, bS, jLn (by omega)]; rfl
  · unfold jZ8
    simp only []
    rw [jRd, jQy, dF (by omega), cnF]
theorem law_HullStrength (x0 : GShip) (x1 : GAttitude) (x2 : Int) (h0 : x0.ok) (h1 : x1.ok) (h2 : gI .i64 x2) : jKm (2 ^ 70) x0 x1 x2 = some true := by
  have hN : 2 ^ 64 ≤ (2 ^ 70 : Nat) := by decide
  unfold jKm
  rw [qW3, bS, Bool.not_true, cnF]
  obtain ⟨b, hb, ht⟩ := qG7 (s := x0) hN
  obtain ⟨c, hc, hq⟩ := att_eq (N := 2 ^ 70) h1
  rw [hb, bS]
  cases b with
  | false => rfl
  | true =>
    rw [Bool.not_true, Bool.not_false, cnT, hc, bS]
    cases c with
    | false => rfl
    | true =>
      have ht := ht rfl
      obtain ⟨q1, q2⟩ := hq rfl
      rw [Bool.not_true, Bool.or_false, cnF, qUy ht hN, bS]
      have hfl := qYz (d := x2) ht hN
      have herr : jC9 x0 x2 ≠ 0 → jVa (2 ^ 70) x0 x1 x2 = some ([], jC9 x0 x2) := fun hz => by
        unfold jVa
        rw [hfl, bS, jV4, dF hz]; rfl
      by_cases hs : jMr x0 = 0
      · have hf := Fits.of ht hs
        have hlen := hf.len
        generalize hp : rv x1.Sink = p at q1
        generalize hqq : rv x1.Slope = q at q2
        have hL : Sz 64 ((x0.Length : Int) : Rat) := Sz.i64 (by omega) (by omega)
        have h2z : Sz 64 ((2 : Int) : Rat) := Sz.i64 (by omega) (by omega)
        have hhalf : Sz 128 (((x0.Length : Int) : Rat) / ((2 : Int) : Rat)) := hL.div h2z
        have hqs : Sz 128 q := q2.sz.mono (by omega)
        have hD : jYb (2 ^ 70) x0 x1 = some ([R (jP7 p q 0), R (p + q * (((x0.Length : Int) : Rat) / ((2 : Int) : Rat))), R (jP7 p q x0.Length)], 0) := by
          unfold jYb
          rw [jCk ht hN, bS, jV4, dT hs, Bool.not_true, cnF, jUj (by omega) (by omega) hN, bS, jUj (by omega) (by omega) hN, bS, qZj (Qf.R hL) (Qf.R h2z) (by omega) (by exact jY8 (by omega)) hN, bS, jA2 (q2.mono (show 32 ≤ 128 by omega)) (Qf.R hhalf) hqs hhalf (by omega) hN, bS, jH6 q1 (Qf.R (hqs.mul hhalf)) (by omega) hN, bS, qY2 q1 q2 (by omega) (by omega) (by omega) hN, bS, qY2 q1 q2 (by omega) (by omega) (by omega) hN, bS]
        have z0 : Sz 1000 (jP7 p q 0) := (ySz q1 q2 (by omega) (by omega)).mono (by omega)
        have zL : Sz 1000 (jP7 p q x0.Length) := (ySz q1 q2 (by omega) (by omega)).mono (by omega)
        have zh : Sz 1000 (p + q * (((x0.Length : Int) : Rat) / ((2 : Int) : Rat))) := (q1.sz.add (hqs.mul hhalf)).mono (by omega)
        rw [hD, bS, bS]
        have hmain : ∀ v7, (jVa (2 ^ 70) x0 x1 x2 = some v7) → (∀ F : List jXy × Int → Option Bool, ((jVa (2 ^ 70) x0 x1 x2).bind F) = F v7) := fun v7 h F => by rw [h]; rfl
        have hhq : jF2 (2 ^ 70) x0.Length 2 = some (R (((x0.Length : Int) : Rat) / ((2 : Int) : Rat))) := Q_R (by omega) (by omega) (by omega) (by omega) (by omega) hN
        have hI0 := qJz (N := 2 ^ 70) (x := 0) q1 q2 (by omega) (by omega) (by omega) hN
        have hIL := qJz (N := 2 ^ 70) (x := x0.Length) q1 q2 (by omega) (by omega) (by omega) hN
        by_cases hdn : jMh x2 = 0
        · obtain ⟨d0, d1⟩ := qFq hdn
          have hbz : jC9 x0 x2 = 0 := by unfold jC9; rw [if_pos hs]; exact hdn
          have hy : ∀ i, i < x0.Stations.length → Sz (2 * 32 + 98) (yT x0 p q i) := hf.y32 q1 q2
          have hS := qZz hf (show 2 * 32 + 98 ≤ 1000 by omega) hy q1 q2 (by omega) d0 d1 hN (by rw [hfl, hbz])
          have hR := qQs hf (show 2 * 32 + 98 ≤ 1000 by omega) hy q1 q2 (by omega) d0 d1 hN
          have hpl := jRb (s := x0)
          obtain ⟨e1, e2, e3, e4⟩ := jLv hf
          have hne : 0 < (jW8 x0).length := List.length_pos_of_mem (jSx.2 ⟨0, by unfold evN; omega, rfl⟩)
          have hV : Sz 55000 (vQ x0 p q) := hf.szV (show 2 * 32 + 98 ≤ 1000 by omega) hy (Nat.le_refl _)
          have hkg : Sz 55128 (kgQ (vQ x0 p q) x2) := by
            unfold kgQ
            exact ((hV.mul (Sz.i64 (z := x2) (by omega) (by omega))).div (Sz.i64 (z := 1000000000) (by omega) (by omega))).mono (by omega)
          have hms := qUe hf.lds
          have hmb := qJe hf.lds (Nat.le_refl _)
          have hlast : idx (qX1 x0 p q x2 (jW8 x0).length) (IntKind.i64.wrap (((jW8 x0).length : Int) - 1)) = some ⟨(jW8 x0)[(jW8 x0).length - 1]!, R (shQ x0 p q x2 (jW8 x0)[(jW8 x0).length - 1]!), R (bmQ x0 p q x2 (jW8 x0)[(jW8 x0).length - 1]!)⟩ := by
            rw [w64 (by omega) (by omega), show (((jW8 x0).length : Int) - 1) = (((jW8 x0).length - 1 : Nat) : Int) by omega, qV8 (by omega)]
          rw [hS, bS, jCp ht hN, bS, jV4, dT hs, Bool.not_true, cnF, hhq, bS, jHs q2 (Qf.R hhalf) (by omega) hN, bS, jU1 q1 (Qf.R (hqs.mul hhalf)) (by omega) hN, bS]
          simp only [jV4, decide_true, Bool.not_true, Bool.not_false, cnT, Bool.false_or]
          rw [show idx [R (jP7 p q 0), R (p + q * (((x0.Length : Int) : Rat) / ((2 : Int) : Rat))), R (jP7 p q x0.Length)] 0 = some (R (jP7 p q 0)) from rfl, show idx [R (jP7 p q 0), R (p + q * (((x0.Length : Int) : Rat) / ((2 : Int) : Rat))), R (jP7 p q x0.Length)] 1 = some (R (p + q * (((x0.Length : Int) : Rat) / ((2 : Int) : Rat)))) from rfl, show idx [R (jP7 p q 0), R (p + q * (((x0.Length : Int) : Rat) / ((2 : Int) : Rat))), R (jP7 p q x0.Length)] 2 = some (R (jP7 p q x0.Length)) from rfl]
          rw [bS, hI0, bS, jBm z0 (by omega) hN, dT rfl, bS]
          simp only [Bool.not_true, Bool.not_false, cnT, bS]
          rw [jBm zh (by omega) hN, dT rfl, bS]
          simp only [Bool.not_true, Bool.not_false, Bool.or_self, cnT, bS]
          rw [hIL, bS, jBm zL (by omega) hN, dT rfl, bS]
          simp only [Bool.not_true, Bool.or_self, cnF]
          rw [qVr, bS, dT hdn, Bool.not_true, cnF, hR, bS, jRd, dT rfl, jHd, dF (by omega)]
          simp only [Bool.not_true, Bool.or_self, cnF]
          rw [qGx hf (show 2 * 32 + 98 ≤ 1000 by omega) hy d0 d1 hN, bS, Sum.elim_inl, qFj (show 2 * 32 + 98 ≤ 1000 by omega) hy hf q1 q2 (by omega) hN, bS, qVu (Qf.R hV) hV (by omega) (by omega) (by omega) hN, bS, qY3 hf.lds hN, bS, show (totQ x0).Mass = jNn x0 from rfl, W_R (by unfold jNn; omega) (by unfold jNn; omega) hN, bS, jR1 (Qf.R hkg) (Qf.R hms) (by omega) hN, bS, hlast, bS]
          simp only []
          rw [jBm (k := 640000) (show Sz 640000 (shQ x0 p q x2 (jW8 x0)[(jW8 x0).length - 1]!) from shSz hf (show 2 * 32 + 98 ≤ 1000 by omega) hy d0 d1 (Nat.le_refl _)) (by omega) hN, bS, dT (by rw [qD1 hne, ev_sum])]
        · have hbz : jC9 x0 x2 = jMh x2 := by unfold jC9; rw [if_pos hs]
          rw [herr (by rw [hbz]; exact hdn), bS, jCp ht hN, bS, jV4, dT hs, Bool.not_true, cnF, hhq, bS, jHs q2 (Qf.R hhalf) (by omega) hN, bS, jU1 q1 (Qf.R (hqs.mul hhalf)) (by omega) hN, bS]
          simp only [jV4, decide_true, Bool.not_true, Bool.not_false, cnT, Bool.false_or]
          rw [show idx [R (jP7 p q 0), R (p + q * (((x0.Length : Int) : Rat) / ((2 : Int) : Rat))), R (jP7 p q x0.Length)] 0 = some (R (jP7 p q 0)) from rfl, show idx [R (jP7 p q 0), R (p + q * (((x0.Length : Int) : Rat) / ((2 : Int) : Rat))), R (jP7 p q x0.Length)] 1 = some (R (p + q * (((x0.Length : Int) : Rat) / ((2 : Int) : Rat)))) from rfl, show idx [R (jP7 p q 0), R (p + q * (((x0.Length : Int) : Rat) / ((2 : Int) : Rat))), R (jP7 p q x0.Length)] 2 = some (R (jP7 p q x0.Length)) from rfl]
          rw [bS, hI0, bS, jBm z0 (by omega) hN, dT rfl, bS]
          simp only [Bool.not_true, Bool.not_false, cnT, bS]
          rw [jBm zh (by omega) hN, dT rfl, bS]
          simp only [Bool.not_true, Bool.not_false, Bool.or_self, cnT, bS]
          rw [hIL, bS, jBm zL (by omega) hN, dT rfl, bS]
          simp only [Bool.not_true, Bool.or_self, cnF]
          rw [qVr, bS, dF hdn, Bool.not_false, cnT, hbz, jHd, dT rfl]; rfl
      · have hbz : jC9 x0 x2 = jMr x0 := by unfold jC9; rw [if_neg hs]
        have hD : jYb (2 ^ 70) x0 x1 = some ([jGe, jGe, jGe], jMr x0) := by
          unfold jYb
          rw [jCk ht hN, bS, jV4, dF hs]; rfl
        have hmk : mk jGe 3 3 = some [jGe, jGe, jGe] := by rfl
        have hmk' : mk (⟨(⟨false, []⟩ : jQn), (⟨false, []⟩ : jQn)⟩ : jQv) 3 3 = some [jGe, jGe, jGe] := hmk
        rw [hD, bS, bS, herr (by rw [hbz]; exact hs), hbz, bS, jCp ht hN, bS, jV4, dF hs, Bool.not_false, cnT, jHd, dT rfl, Bool.and_self, cnT, hmk', bS, cnT, sameZ3]; rfl
end Go.KB
