/- Plain laws: the total of the loads, of the program. No condition. -/
import Derived.Test.YtbedbjphickpaaaPZe
namespace Go.KB
set_option linter.unusedVariables false
set_option maxRecDepth 100000
structure LdOk (least : Int) (l : GLoad) : Prop where
 m0 : least ≤ l.Mass
 m1 : l.Mass ≤ 1000000000
 x0 : -1000000 ≤ l.X
 x1 : l.X ≤ 1000000
 z0 : -100000 ≤ l.Z
 z1 : l.Z ≤ 100000
 f0 : 0 ≤ l.Free
 f1 : l.Free ≤ 1000000000
theorem LdOk.of {l : GLoad} {least : Int} (h : numErr l least = 0) : LdOk least l := by
 unfold numErr at h
 split at h
 ·rename_i hp
  simp only [Bool.and_eq_true, inR_iff] at hp
  obtain ⟨⟨⟨h1, h2⟩, h3⟩, h4⟩ := hp
  exact ⟨h1.1, h1.2, h2.1, h2.2, h3.1, h3.2, h4.1, h4.2⟩
 ·cases h
def ldsL (s : GShip) : List GLoad := s.Light :: s.Items
theorem lds_ok {s : GShip} (h : ldsErr s = 0) : s.Items.length ≤ 60 ∧ LdOk 1 s.Light ∧ ∀ i, i < (ldsL s).length → LdOk 0 (ldsL s)[i]! := by
  unfold ldsErr at h
  split at h
  · split at h
    · rename_i hn
      split at h
      · cases h
      · rename_i hl
        have h1 := LdOk.of hn
        refine ⟨by omega, h1, fun i hi => ?_⟩
        cases i with
        | zero => exact ⟨by have := h1.m0; show 0 ≤ s.Light.Mass; omega, h1.m1, h1.x0, h1.x1, h1.z0, h1.z1, h1.f0, h1.f1⟩
        | succ i =>
          have hi' : i < s.Items.length := by simpa [ldsL] using hi
          have := firstErr_zero h i (by omega) (by omega)
          unfold itErr at this
          split at this
          · split at this
            · cases this
            · rw [show (ldsL s)[i + 1]! = s.Items[i]! by simp [ldsL]]
              exact LdOk.of this
          · cases this
    · rename_i hn; exact absurd h hn
  · cases h
def sumI (f : Nat → Int) : Nat → Int
 | 0 => 0
 | n + 1 => sumI f n + f n
theorem sumI_bd {f : Nat → Int} {b : Int} : ∀ {n : Nat}, (∀ k, k < n → 0 ≤ f k ∧ f k ≤ b) → 0 ≤ sumI f n ∧ sumI f n ≤ b * (n : Int) := by
 intro n
 induction n with
 | zero => intro _; simp [sumI]
 | succ n ih =>
  intro h
  have h1 := ih (fun k hk => h k (by omega)); have h2 := h n (by omega)
  rw [sumI]
  have : b * ((n + 1 : Nat) : Int) = b * (n : Int) + b := by rw [Int.natCast_add, Int.mul_add]; simp
  omega
theorem loads_eq {N : Nat} {s : GShip} (h1 : s.Items.length ≤ 1000) (hN : 2 ^ 64 ≤ N) : f_hull_loads N s = some (ldsL s) := by
 unfold f_hull_loads f_slices_Concatlapi_Load_api_Load
 obtain ⟨M, rfl⟩ : ∃ M, N = M + 3 := ⟨N - 3, by omega⟩
 have e1 : loopN (f_slices_Concatlapi_Load_api_Load_L2 (M + 3) [[s.Light], s.Items]) (M + 3) (0, 0) = some (((s.Items.length + 1 : Nat) : Int)) := by
  have a0 : f_slices_Concatlapi_Load_api_Load_L2 (M + 3) [[s.Light], s.Items] (0, 0) = some (.inl (1, 1)) := rfl
  have a1 : f_slices_Concatlapi_Load_api_Load_L2 (M + 3) [[s.Light], s.Items] (1, 1) = some (.inl (((s.Items.length + 1 : Nat) : Int), 2)) := by
   unfold f_slices_Concatlapi_Load_api_Load_L2
   simp only [cmp_lss]
   rw [dT (by simp), cond_true, show idx [[s.Light], s.Items] 1 = some s.Items from rfl, bS, w64 (by omega) (by omega), dF (by omega), cond_false, w64 (by omega) (by omega)]
   congr 3
   omega
  have a2 : f_slices_Concatlapi_Load_api_Load_L2 (M + 3) [[s.Light], s.Items] (((s.Items.length + 1 : Nat) : Int), 2) = some (.inr (((s.Items.length + 1 : Nat) : Int))) := rfl
  simp only [loopN, a0, a1, a2]
 rw [e1, bS]
 have e2 : f_slices_Growlapi_Load_api_Load_nil (M + 3) (((s.Items.length + 1 : Nat) : Int)) = some [] := by
  unfold f_slices_Growlapi_Load_api_Load_nil
  simp only [cmp_lss, cmp_gtr, List.length_nil]
  have w1 : IntKind.i64.wrap ((((s.Items.length + 1 : Nat) : Int)) - IntKind.i64.wrap (0 - ((0 : Nat) : Int))) = ((s.Items.length + 1 : Nat) : Int) := by
   rw [w64 (n := 0 - ((0 : Nat) : Int)) (by omega) (by omega), w64 (by omega) (by omega)]; omega
  rw [dF (by omega), cond_false, bS, w1, dT (by omega), cond_true]
  unfold mkp
  rw [dT (by omega), dT (by unfold lim; omega)]
  simp
 rw [e2, bS]
 have b0 : f_slices_Concatlapi_Load_api_Load_L1 (M + 3) [[s.Light], s.Items] ([], 0) = some (.inl ([s.Light], 1)) := rfl
 have b1 : f_slices_Concatlapi_Load_api_Load_L1 (M + 3) [[s.Light], s.Items] ([s.Light], 1) = some (.inl (ldsL s, 2)) := by
  unfold f_slices_Concatlapi_Load_api_Load_L1
  simp only [cmp_lss]
  rw [dT (by simp), cond_true, show idx [[s.Light], s.Items] 1 = some s.Items from rfl, bS, app_ok (by simp; unfold lim; omega), bS]; rfl
 have b2 : f_slices_Concatlapi_Load_api_Load_L1 (M + 3) [[s.Light], s.Items] (ldsL s, 2) = some (.inr (ldsL s)) := rfl
 simp only [loopN, b0, b1, b2, bS]
section
variable (s : GShip)
def ldM (i : Nat) : Int := (ldsL s)[i]!.Mass
def ldF (i : Nat) : Int := (ldsL s)[i]!.Free
def ldX (i : Nat) : Rat := (((ldsL s)[i]!.Mass * (ldsL s)[i]!.X : Int) : Rat)
def ldZ (i : Nat) : Rat := (((ldsL s)[i]!.Mass * (ldsL s)[i]!.Z : Int) : Rat)
def massI : Int := sumI (ldM s) (ldsL s).length
def freeI : Int := sumI (ldF s) (ldsL s).length
def sxQ : Rat := sumQ (ldX s) (ldsL s).length
def szQ : Rat := sumQ (ldZ s) (ldsL s).length
def totQ : GCentre := ⟨massI s, R (sxQ s / (massI s : Rat)), R (szQ s / (massI s : Rat)), freeI s⟩
end
section
variable {s : GShip} (h : ldsErr s = 0)
include h
theorem lds_len : (ldsL s).length ≤ 61 := by have := (lds_ok h).1; simp [ldsL]; omega
theorem ldX_bd {i : Nat} (hi : i < (ldsL s).length) : -1000000000000000 ≤ (ldsL s)[i]!.Mass * (ldsL s)[i]!.X ∧ (ldsL s)[i]!.Mass * (ldsL s)[i]!.X ≤ 1000000000000000 := by
 have hl := (lds_ok h).2.2 i hi
 have := hl.m0; have := hl.m1; have := hl.x0; have := hl.x1
 have := mulB (a := (ldsL s)[i]!.Mass) (b := (ldsL s)[i]!.X) (A := 1000000000) (B := 1000000) (by omega) (by omega)
 omega
theorem ldZ_bd {i : Nat} (hi : i < (ldsL s).length) : -1000000000000000 ≤ (ldsL s)[i]!.Mass * (ldsL s)[i]!.Z ∧ (ldsL s)[i]!.Mass * (ldsL s)[i]!.Z ≤ 1000000000000000 := by
 have hl := (lds_ok h).2.2 i hi
 have := hl.m0; have := hl.m1; have := hl.z0; have := hl.z1
 have := mulB (a := (ldsL s)[i]!.Mass) (b := (ldsL s)[i]!.Z) (A := 1000000000) (B := 1000000) (by omega) (by omega)
 omega
theorem ldX_sz {i : Nat} (hi : i < (ldsL s).length) : Sz 64 (ldX s i) := by have := ldX_bd h hi; exact Sz.i64 (by omega) (by omega)
theorem ldZ_sz {i : Nat} (hi : i < (ldsL s).length) : Sz 64 (ldZ s i) := by have := ldZ_bd h hi; exact Sz.i64 (by omega) (by omega)
theorem sxSz {i : Nat} (hi : i ≤ (ldsL s).length) : Sz 4000 (sumQ (ldX s) i) := sumSz' (fun k hk => ldX_sz h hk) hi (Nat.le_trans (Nat.mul_le_mul_left _ (lds_len h)) (by omega))
theorem szSz {i : Nat} (hi : i ≤ (ldsL s).length) : Sz 4000 (sumQ (ldZ s) i) := sumSz' (fun k hk => ldZ_sz h hk) hi (Nat.le_trans (Nat.mul_le_mul_left _ (lds_len h)) (by omega))
theorem mass_bd {i : Nat} (hi : i ≤ (ldsL s).length) : 0 ≤ sumI (ldM s) i ∧ sumI (ldM s) i ≤ 61000000000 := by
 have := sumI_bd (f := ldM s) (b := 1000000000) (n := i) (fun k hk => by have hl := (lds_ok h).2.2 k (by omega); exact ⟨hl.m0, hl.m1⟩)
 have := lds_len h
 omega
theorem free_bd {i : Nat} (hi : i ≤ (ldsL s).length) : 0 ≤ sumI (ldF s) i ∧ sumI (ldF s) i ≤ 61000000000 := by
 have := sumI_bd (f := ldF s) (b := 1000000000) (n := i) (fun k hk => by have hl := (lds_ok h).2.2 k (by omega); exact ⟨hl.f0, hl.f1⟩)
 have := lds_len h
 omega
theorem mass_pos : 1 ≤ massI s := by
  have h1 : ∀ n, 1 ≤ n → n ≤ (ldsL s).length → 1 ≤ sumI (ldM s) n := by
    intro n
    induction n with
    | zero => intro h; omega
    | succ n ih =>
      intro h1 h2
      rw [sumI]
      by_cases h0 : n = 0
      · subst h0
        have := (lds_ok h).2.1.m0
        show 1 ≤ 0 + s.Light.Mass
        omega
      · have := ih (by omega) (by omega)
        have : 0 ≤ ldM s n := ((lds_ok h).2.2 n (by omega)).m0
        omega
  exact h1 _ (by simp [ldsL]) (Nat.le_refl _)
theorem mass_ne : (massI s : Rat) ≠ 0 := rat_ne (by have := mass_pos h; omega)
theorem massSz : Sz 64 (massI s : Rat) := by have := mass_bd h (Nat.le_refl _); exact Sz.i64 (by unfold massI; omega) (by unfold massI; omega)
theorem total_eq {N : Nat} (hN : 2 ^ 64 ≤ N) : f_hull_total N s = some (totQ s) := by
  have hl := lds_len h
  have hi60 := (lds_ok h).1
  unfold f_hull_total
  rw [whole_eq (by omega) (by omega) hN, bS, bS, loads_eq (by omega) hN, bS]
  have := loop_errG (f := f_hull_total_L1 N (ldsL s)) (e := fun _ => 0) (N := N) (n := (ldsL s).length) (fin := ((⟨massI s, zeroR, zeroR, freeI s⟩ : GCentre), R (sxQ s), R (szQ s))) (err := fun _ => ((⟨massI s, zeroR, zeroR, freeI s⟩ : GCentre), R (sxQ s), R (szQ s)))
    (fun i => ((⟨sumI (ldM s) i, zeroR, zeroR, sumI (ldF s) i⟩ : GCentre), R (sumQ (ldX s) i), R (sumQ (ldZ s) i), (i : Int))) (fun i hi _ => by
    have b1 := ldX_bd h hi; have b2 := ldZ_bd h hi
    have m1 := mass_bd h (i := i + 1) (by omega); have f1 := free_bd h (i := i + 1) (by omega)
    rw [sumI] at m1 f1
    have em : ldM s i = (ldsL s)[i]!.Mass := rfl
    have ef : ldF s i = (ldsL s)[i]!.Free := rfl
    unfold f_hull_total_L1
    simp only [cmp_lss]
    rw [dT (by omega), cond_true, idxB hi, bS, w64 (n := (ldsL s)[i]!.Mass * (ldsL s)[i]!.X) (by omega) (by omega), w64 (n := (ldsL s)[i]!.Mass * (ldsL s)[i]!.Z) (by omega) (by omega), whole_eq (by omega) (by omega) hN, bS, show (((ldsL s)[i]!.Mass * (ldsL s)[i]!.X : Int) : Rat) = ldX s i from rfl,
      AddRat_eq (Qf.R (sxSz h (by omega))) (Qf.R (k := 64) (ldX_sz h hi)) (by omega) hN, bS, whole_eq (by omega) (by omega) hN, bS, show (((ldsL s)[i]!.Mass * (ldsL s)[i]!.Z : Int) : Rat) = ldZ s i from rfl, AddRat_eq (Qf.R (szSz h (by omega))) (Qf.R (k := 64) (ldZ_sz h hi)) (by omega) hN, bS, w64s (by omega)]
    have e1 : IntKind.i64.wrap (sumI (ldM s) i + (ldsL s)[i]!.Mass) = sumI (ldM s) (i + 1) := by rw [w64 (by omega) (by omega)]; rfl
    have e2 : IntKind.i64.wrap (sumI (ldF s) i + (ldsL s)[i]!.Free) = sumI (ldF s) (i + 1) := by rw [w64 (by omega) (by omega)]; rfl
    rw [e1, e2]; rfl) (fun _ => by
    unfold f_hull_total_L1
    simp only [cmp_lss]
    rw [dF (by omega)]; rfl) (by omega)
  rw [firstErr_nil] at this
  rw [show loopN (f_hull_total_L1 N (ldsL s)) N ((⟨0, (⟨(⟨false, []⟩ : GInt), (⟨false, []⟩ : GInt)⟩ : GRat), (⟨(⟨false, []⟩ : GInt), (⟨false, []⟩ : GInt)⟩ : GRat), 0⟩ : GCentre), R ((0 : Int) : Rat), R ((0 : Int) : Rat), 0) = _ from this]
  unfold errOr
  rw [if_pos rfl, bS]
  dsimp only
  have hm := mass_bd h (i := (ldsL s).length) (Nat.le_refl _)
  have s1 : Sz 4000 (sxQ s) := sxSz h (Nat.le_refl _)
  have s2 : Sz 4000 (szQ s) := szSz h (Nat.le_refl _)
  rw [whole_eq (by unfold massI; omega) (by unfold massI; omega) hN, bS, over_eq (Qf.R s1) (Qf.R (massSz h)) (by omega) (mass_ne h) hN, bS, bS, over_eq (Qf.R s2) (Qf.R (massSz h)) (by omega) (mass_ne h) hN, bS]
  rfl
theorem kgSz : Sz 4064 (szQ s / (massI s : Rat)) := ((szSz h (Nat.le_refl _) : Sz 4000 (szQ s)).div (massSz h)).mono (by omega)
theorem freeSz : -9223372036854775808 ≤ 1000 * freeI s ∧ 1000 * freeI s ≤ 9223372036854775807 ∧ 0 ≤ freeI s ∧ freeI s ≤ 61000000000 := by
 have := free_bd h (i := (ldsL s).length) (Nat.le_refl _)
 unfold freeI
 omega
end
def zeroS : GStable := ⟨zeroR, zeroR, zeroR, zeroR⟩
end Go.KB
