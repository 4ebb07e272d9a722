/- The plain law of HullMoves: it returns true for every ship, load and place. No condition. -/
import Derived.Test.YtbedbjphickpaaaGreatPZj
namespace Go.KB
set_option linter.unusedVariables false
set_option maxRecDepth 100000

theorem dup_not {f : Nat → Str} {x : Str} {n : Nat} (h : dup f n x = false) (j : Nat) (hj : j < n) : f j ≠ x := fun he => by
  rw [(dup_iff f x n).2 ⟨j, hj, he⟩] at h; cases h
theorem plus_get {s : GShip} {l : GLoad} {j : Nat} (hj : j < s.Items.length) : (plus s l).Items[j]! = s.Items[j]! := by
  show (s.Items ++ [l])[j]! = _
  rw [bang (by simp; omega), bang hj, List.getElem_append_left hj]
theorem plus_last {s : GShip} {l : GLoad} : (plus s l).Items[s.Items.length]! = l := by
  show (s.Items ++ [l])[s.Items.length]! = _
  rw [bang (by simp)]; simp
theorem plus_len {s : GShip} {l : GLoad} : (plus s l).Items.length = s.Items.length + 1 := by show (s.Items ++ [l]).length = _; simp
theorem fnd_last {s : GShip} {l : GLoad} (h : shpErr (plus s l) = 0) : fnd (plus s l).Items l.Name = (s.Items.length : Int) := by
  have hl := shp_lds h
  have hz : itErr (plus s l) s.Items.length = 0 := by
    unfold ldsErr at hl
    split at hl
    · split at hl
      · split at hl
        · cases hl
        · exact firstErr_zero hl s.Items.length (by omega) (by rw [plus_len]; omega)
      · rename_i hm; exact absurd hl hm
    · cases hl
  have hn : ∀ k, k < s.Items.length → s.Items[k]!.Name ≠ l.Name := by
    unfold itErr at hz
    rw [plus_last] at hz
    split at hz
    · split at hz
      · cases hz
      · rename_i hd
        intro k hk
        have := dup_not (by simpa using hd) (k + 1) (by omega)
        show s.Items[k]!.Name ≠ l.Name
        rw [← plus_get (l := l) hk]
        exact this
    · cases hz
  unfold fnd
  have hE : ∀ j, j < s.Items.length → fndE (plus s l).Items l.Name j = 0 := fun j hj => by
    unfold fndE
    rw [plus_get hj, if_neg (hn j hj)]
  have hL : fndE (plus s l).Items l.Name s.Items.length = (s.Items.length : Int) + 1 := by
    unfold fndE
    rw [plus_last, if_pos rfl]
  rw [plus_len]
  by_cases h0 : firstErr (fndE (plus s l).Items l.Name) (s.Items.length + 1) 0 = 0
  · have := firstErr_zero h0 s.Items.length (by omega) (by omega)
    rw [hL] at this; omega
  · obtain ⟨j, _, h2, h3, h4, _⟩ := firstErr_at h0
    have : j = s.Items.length := by
      by_cases hj : j < s.Items.length
      · exact absurd (hE j hj) h4
      · omega
    rw [h3, this, hL]; omega
theorem minus_plus {s : GShip} {l : GLoad} : minus (plus s l) s.Items.length = s := by
  unfold minus plus; simp
/- sums that differ in the last part -/
theorem sumI_congr {f g : Nat → Int} : ∀ {n : Nat}, (∀ k, k < n → f k = g k) → sumI f n = sumI g n
  | 0, _ => rfl
  | n + 1, h => by rw [sumI, sumI, sumI_congr (fun k hk => h k (by omega)), h n (by omega)]
section
variable (s : GShip) (l : GLoad)
theorem lds_plus : ldsL (plus s l) = (s.Light :: s.Items) ++ [l] := rfl
theorem lds_get {i : Nat} (hi : i < s.Items.length + 1) : (ldsL (plus s l))[i]! = (s.Light :: s.Items)[i]! := by
  rw [lds_plus, bang (by simp; omega), bang (by simpa using hi), List.getElem_append_left (by simpa using hi)]
theorem lds_lst : (ldsL (plus s l))[s.Items.length + 1]! = l := by
  rw [lds_plus, bang (by simp)]; simp
theorem lds_pl : (ldsL (plus s l)).length = s.Items.length + 2 := by rw [lds_plus]; simp
theorem massI_plus : massI (plus s l) = sumI (fun i => (s.Light :: s.Items)[i]!.Mass) (s.Items.length + 1) + l.Mass := by
  unfold massI
  rw [lds_pl, sumI]
  congr 1
  · exact sumI_congr fun k hk => by unfold ldM; rw [lds_get s l hk]
  · unfold ldM; rw [lds_lst]
theorem freeI_plus : freeI (plus s l) = sumI (fun i => (s.Light :: s.Items)[i]!.Free) (s.Items.length + 1) + l.Free := by
  unfold freeI
  rw [lds_pl, sumI]
  congr 1
  · exact sumI_congr fun k hk => by unfold ldF; rw [lds_get s l hk]
  · unfold ldF; rw [lds_lst]
def bX (i : Nat) : Rat := (((s.Light :: s.Items)[i]!.Mass * (s.Light :: s.Items)[i]!.X : Int) : Rat)
def bZ (i : Nat) : Rat := (((s.Light :: s.Items)[i]!.Mass * (s.Light :: s.Items)[i]!.Z : Int) : Rat)
theorem sxQ_plus : sxQ (plus s l) = sumQ (bX s) (s.Items.length + 1) + ((l.Mass * l.X : Int) : Rat) := by
  unfold sxQ
  rw [lds_pl, sumQ]
  congr 1
  · exact sumQ_congr fun k hk => by unfold ldX bX; rw [lds_get s l hk]
  · unfold ldX; rw [lds_lst]
theorem szQ_plus : szQ (plus s l) = sumQ (bZ s) (s.Items.length + 1) + ((l.Mass * l.Z : Int) : Rat) := by
  unfold szQ
  rw [lds_pl, sumQ]
  congr 1
  · exact sumQ_congr fun k hk => by unfold ldZ bZ; rw [lds_get s l hk]
  · unfold ldZ; rw [lds_lst]
theorem moved_plus (x z : Int) : moved (plus s l) s.Items.length x z = plus s (there l x z) := by
  unfold moved
  rw [plus_last]
  unfold plus
  simp
end
theorem lever_eq {A m x x' M : Rat} (hM : M ≠ 0) : ((A + m * x') / M - (A + m * x) / M) * M = m * (x' - x) := by grind
theorem law_HullMoves (x0 : Glaw02_Moving) (h0 : x0.ok) : f_law02_HullMoves (2 ^ 70) x0 = some true := by
  have hN : 2 ^ 64 ≤ (2 ^ 70 : Nat) := by decide
  unfold f_law02_HullMoves
  rw [awake_true, bS, Bool.not_true, cond_false]
  obtain ⟨b, hb, ht⟩ := small_eq (s := x0.Ship) hN
  rw [hb, bS]
  cases b with
  | false => rfl
  | true =>
    have ht := ht rfl
    rw [Bool.not_true, Bool.false_or]
    generalize cmpI .gtr (List.length x0.Load.Name : Int) 40 = c
    cases c with
    | true => rfl
    | false =>
      rw [cond_false, With_eq ht hN, bS]
      by_cases h : shpErr x0.Ship = 0
      · rw [if_pos h]
        have h60 := (lds_ok (shp_lds h)).1
        have htp : Tame (plus x0.Ship x0.Load) := ht.items (by simp; omega)
        by_cases hp : shpErr (plus x0.Ship x0.Load) = 0
        · rw [if_pos hp]
          dsimp only
          rw [cmp_neq, dT rfl, Bool.not_true, cond_false, Without_eq htp hN, bS, if_pos hp, fnd_last hp, if_neg (by omega), Int.toNat_natCast, minus_plus]
          dsimp only
          rw [cmp_neq, dT rfl, Bool.not_true, Bool.not_false, cond_true, Same_refl ht hN, bS, Bool.not_true, Bool.or_self, cond_false, Move_eq htp hN, bS, if_pos hp, fnd_last hp, if_neg (by omega), Int.toNat_natCast, plus_last]
          have hm := moved_err (x := x0.X) (z := x0.Z) hp (i := x0.Ship.Items.length) (by rw [plus_len]; omega)
          rw [plus_last, moved_plus] at hm
          rw [moved_plus]
          by_cases h9 : numErr (there x0.Load x0.X x0.Z) 0 = 0
          · rw [h9] at hm
            have htm : Tame (plus x0.Ship (there x0.Load x0.X x0.Z)) := ht.items (by simp; omega)
            have l1 := shp_lds hp
            have l2 := shp_lds hm
            have k1 := (lds_ok l1).2.2 (x0.Ship.Items.length + 1) (by rw [lds_pl]; omega)
            rw [lds_lst] at k1
            have k2 := LdOk.of h9
            have eM : massI (plus x0.Ship (there x0.Load x0.X x0.Z)) = massI (plus x0.Ship x0.Load) := by rw [massI_plus, massI_plus]; rfl
            have eF : freeI (plus x0.Ship (there x0.Load x0.X x0.Z)) = freeI (plus x0.Ship x0.Load) := by rw [freeI_plus, freeI_plus]; rfl
            have hmb := mass_bd l1 (i := (ldsL (plus x0.Ship x0.Load)).length) (Nat.le_refl _)
            have hmb : 0 ≤ massI (plus x0.Ship x0.Load) ∧ massI (plus x0.Ship x0.Load) ≤ 61000000000 := hmb
            have hMne := mass_ne l1
            have q0 := k1.m0; have q1 := k1.m1; have q2 := k1.x0; have q3 := k1.x1; have q4 := k1.z0; have q5 := k1.z1
            have p2 : -1000000 ≤ x0.X := k2.x0; have p3 : x0.X ≤ 1000000 := k2.x1; have p4 : -100000 ≤ x0.Z := k2.z0; have p5 : x0.Z ≤ 100000 := k2.z1
            have bx := mulB (a := x0.Load.Mass) (b := x0.X - x0.Load.X) (A := 1000000000) (B := 2000000) (by omega) (by omega)
            have bz := mulB (a := x0.Load.Mass) (b := x0.Z - x0.Load.Z) (A := 1000000000) (B := 200000) (by omega) (by omega)
            have a1 : Sz 4000 (sxQ (plus x0.Ship x0.Load)) := sxSz l1 (Nat.le_refl _)
            have a2 : Sz 4000 (sxQ (plus x0.Ship (there x0.Load x0.X x0.Z))) := sxSz l2 (Nat.le_refl _)
            have b1 : Sz 4000 (szQ (plus x0.Ship x0.Load)) := szSz l1 (Nat.le_refl _)
            have b2 : Sz 4000 (szQ (plus x0.Ship (there x0.Load x0.X x0.Z))) := szSz l2 (Nat.le_refl _)
            have mS := massSz l1
            have ex : (sxQ (plus x0.Ship (there x0.Load x0.X x0.Z)) / (massI (plus x0.Ship x0.Load) : Rat) - sxQ (plus x0.Ship x0.Load) / (massI (plus x0.Ship x0.Load) : Rat)) * (massI (plus x0.Ship x0.Load) : Rat) = ((x0.Load.Mass * (x0.X - x0.Load.X) : Int) : Rat) := by
              rw [sxQ_plus, sxQ_plus, Rat.intCast_mul, Rat.intCast_mul, Rat.intCast_mul, Rat.intCast_sub]
              exact lever_eq hMne
            have ez : (szQ (plus x0.Ship (there x0.Load x0.X x0.Z)) / (massI (plus x0.Ship x0.Load) : Rat) - szQ (plus x0.Ship x0.Load) / (massI (plus x0.Ship x0.Load) : Rat)) * (massI (plus x0.Ship x0.Load) : Rat) = ((x0.Load.Mass * (x0.Z - x0.Load.Z) : Int) : Rat) := by
              rw [szQ_plus, szQ_plus, Rat.intCast_mul, Rat.intCast_mul, Rat.intCast_mul, Rat.intCast_sub]
              exact lever_eq hMne
            rw [if_pos h9]
            dsimp only
            rw [cmp_neq, dT rfl, Bool.not_true, cond_false, Loads_eq htp hN, bS, if_pos hp, Loads_eq htm hN, bS, if_pos hm]
            unfold totQ
            dsimp only
            rw [eM, eF, cmp_neq, dT rfl, cmp_neq, dT rfl, cmp_neq, dT rfl, Bool.not_true, Bool.or_self, Bool.or_self, Bool.or_self, cond_false,
              SubRat_eq (Qf.R (a2.div mS)) (Qf.R (a1.div mS)) (by omega) hN, bS, W_R (by omega) (by omega) hN, bS, MulRat_eq (Qf.R ((a2.div mS).sub (a1.div mS))) (Qf.R mS) (by omega) hN, bS,
              SubRat_eq (Qf.R (b2.div mS)) (Qf.R (b1.div mS)) (by omega) hN, bS, bS, MulRat_eq (Qf.R ((b2.div mS).sub (b1.div mS))) (Qf.R mS) (by omega) hN, bS, ex, ez,
              w64 (n := x0.X - x0.Load.X) (by omega) (by omega), w64 (n := x0.Load.Mass * (x0.X - x0.Load.X)) (by omega) (by omega), w64 (n := x0.Z - x0.Load.Z) (by omega) (by omega), w64 (n := x0.Load.Mass * (x0.Z - x0.Load.Z)) (by omega) (by omega),
              W_R (by omega) (by omega) hN, bS, SameRat_R (k := 64) (Sz.i64 (by omega) (by omega)) (by omega) hN, bS, dT rfl, cond_true, W_R (by omega) (by omega) hN, bS, cond_true, SameRat_R (k := 64) (Sz.i64 (by omega) (by omega)) (by omega) hN, bS, dT rfl]
            rfl
          · have h10 : numErr (there x0.Load x0.X x0.Z) 0 = 2 := by
              unfold numErr at h9 ⊢
              split
              · rename_i hh; exact absurd (if_pos hh) h9
              · rfl
            rw [if_neg h9, h10]
            dsimp only
            rw [cmp_neq, dF (by decide), Bool.not_false, cond_true, cmp_eql, dT rfl, cond_true, none_eq hN]; rfl
        · rw [if_neg hp]
          dsimp only
          rw [cmp_neq, dF hp, Bool.not_false, cond_true, none_eq hN]; rfl
      · rw [if_neg h]
        dsimp only
        rw [cmp_neq, dF h, Bool.not_false, cond_true, none_eq hN]; rfl
end Go.KB
