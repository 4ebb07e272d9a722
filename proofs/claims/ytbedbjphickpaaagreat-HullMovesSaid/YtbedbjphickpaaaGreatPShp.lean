/- Plain laws: ships with one item more, less or elsewhere. No condition. -/
import Derived.Test.YtbedbjphickpaaaGreatPZb
import Derived.Test.YtbedbjphickpaaaGreatPMov
import Derived.Test.YtbedbjphickpaaaGreatPZg
namespace Go.KB
set_option linter.unusedVariables false
set_option maxRecDepth 100000

theorem rFind_eq {N : Nat} {s : GShip} {x : Str} (hl : s.Items.length < 1000000) (hN : 2 ^ 64 ≤ N) : f_ref02_Find N s x = some (fnd s.Items x) := by
  unfold f_ref02_Find
  rw [loop_err (f := f_ref02_Find_L1 N s x) (e := fndE s.Items x) (n := s.Items.length) (fin := Sum.inl ()) (err := fun z => Sum.inr (z - 1)) (fun i hi _ => by
    unfold f_ref02_Find_L1
    simp only [cmp_lss, cmpS_eql]
    rw [dT (by omega), cond_true, idxB hi, bS, w64s (by omega)]
    unfold fndE
    by_cases h : s.Items[i]!.Name = x
    · rw [dT h, if_pos h, cond_true, if_neg (by omega), show (i : Int) + 1 - 1 = (i : Int) by omega]
    · rw [dF h, if_neg h]; rfl) (fun _ => by
    unfold f_ref02_Find_L1
    simp only [cmp_lss]
    rw [dF (by omega)]; rfl) (by omega), bS]
  unfold errOr fnd
  by_cases h : firstErr (fndE s.Items x) s.Items.length 0 = 0
  · rw [if_pos h, h]; rfl
  · rw [if_neg h]; rfl

def plus (s : GShip) (l : GLoad) : GShip := { s with Items := s.Items ++ [l] }
theorem With_eq {N : Nat} {s : GShip} {l : GLoad} (ht : Tame s) (hN : 2 ^ 64 ≤ N) :
    f_hull_With N s l = some (if shpErr s = 0 then (if shpErr (plus s l) = 0 then (plus s l, 0) else (zeroShip, shpErr (plus s l))) else (zeroShip, shpErr s)) := by
  unfold f_hull_With
  rw [hCheck_eq ht hN, bS, cmp_neq]
  by_cases h : shpErr s = 0
  · have hi := (lds_ok (shp_lds h)).1
    rw [dT h, Bool.not_true, cond_false, shipCopy_eq ht hN, bS, app_ok (by simp; unfold lim; omega), bS, hCheck_eq (ht.items (by simp; omega)) hN, bS, cmp_neq, if_pos h]
    show (bif !decide (shpErr (plus s l) = 0) then _ else _) = _
    by_cases h2 : shpErr (plus s l) = 0
    · rw [dT h2, if_pos h2]; rfl
    · rw [dF h2, if_neg h2]; rfl
  · rw [dF h, if_neg h]; rfl
def minus (s : GShip) (i : Nat) : GShip := { s with Items := s.Items.take i ++ s.Items.drop (i + 1) }
theorem Delete_eq {N : Nat} {l : List GLoad} {i : Nat} (hi : i < l.length) (hl : l.length < 1000000) : f_slices_Deletelapi_Load_api_Load N l (i : Int) ((i + 1 : Nat) : Int) = some (l.take i ++ l.drop (i + 1)) := by
  unfold f_slices_Deletelapi_Load_api_Load
  have e1 : cut3 (i : Int) ((i + 1 : Nat) : Int) (l.length : Int) (l.length : Int) = some () := by
    unfold cut3
    rw [dT (by omega), dT (by omega), dT (by omega), dT (by omega)]; rfl
  have e2 : ∀ a b : Int, 0 ≤ a → a ≤ b → b ≤ l.length → ∃ z, slc l a b = some z := fun a b h0 h1 h2 => by
    unfold slc
    rw [dT h0, dT h1, dT h2]; exact ⟨_, rfl⟩
  obtain ⟨z1, hz1⟩ := e2 0 (i : Int) (by omega) (by omega) (by omega)
  obtain ⟨z2, hz2⟩ := e2 ((i + 1 : Nat) : Int) (l.length : Int) (by omega) (by omega) (by omega)
  have e3 : delc l (Int.toNat 0) (Int.toNat (i : Int) - Int.toNat 0) (Int.toNat ((i + 1 : Nat) : Int)) (Int.toNat (l.length : Int) - Int.toNat ((i + 1 : Nat) : Int)) = some (l.take i ++ l.drop (i + 1)) := by
    have h1 : (Nat.beq (Int.toNat 0) 0 && Nat.ble (Int.toNat (i : Int) - Int.toNat 0) (Int.toNat ((i + 1 : Nat) : Int)) && Nat.beq (Int.toNat ((i + 1 : Nat) : Int) + (Int.toNat (l.length : Int) - Int.toNat ((i + 1 : Nat) : Int))) l.length) = true := by
      simp only [Bool.and_eq_true, Nat.beq_eq, Nat.ble_eq]
      refine ⟨⟨rfl, ?_⟩, ?_⟩
      · simp
      · simp only [Int.toNat_natCast]
        exact Nat.add_sub_cancel' (by omega)
    unfold delc
    rw [h1]; simp
  have hlen : (l.take i ++ l.drop (i + 1)).length ≤ l.length := by simp; omega
  rw [e1, bS, cmp_eql, dF (by omega), cond_false, hz1, bS, hz2, bS, e3, bS]
  generalize l.take i ++ l.drop (i + 1) = v at hlen
  have h5 : (Nat.beq (Int.toNat (v.length : Int)) v.length && Nat.ble (Int.toNat (v.length : Int)) (Int.toNat (l.length : Int)) && Nat.ble (Int.toNat (l.length : Int)) l.length && decide (0 ≤ (v.length : Int)) && decide (0 ≤ (l.length : Int))) = true := by
    simp only [Bool.and_eq_true, Nat.beq_eq, Nat.ble_eq, decide_eq_true_eq, Int.toNat_natCast]
    exact ⟨⟨⟨⟨trivial, hlen⟩, Nat.le_refl _⟩, by omega⟩, by omega⟩
  rw [h5]; rfl
theorem Without_eq {N : Nat} {s : GShip} {x : Str} (ht : Tame s) (hN : 2 ^ 64 ≤ N) :
    f_hull_Without N s x = some (if shpErr s = 0 then (if fnd s.Items x < 0 then (zeroShip, 6) else (minus s (fnd s.Items x).toNat, 0)) else (zeroShip, shpErr s)) := by
  have hl := ht.it
  unfold f_hull_Without
  rw [find_eq ht hN, bS]
  by_cases h : shpErr s = 0
  · rw [if_pos h, if_pos h]
    rcases fnd_cases s.Items x with h2 | ⟨i, hi, h2, _, _⟩
    · rw [if_pos (by omega), if_pos (by omega)]; rfl
    · rw [if_neg (by omega), if_neg (by omega)]
      dsimp only
      rw [h2, w64s (by omega), Delete_eq hi hl]; rfl
  · rw [if_neg h, if_neg h]
    dsimp only
    rw [cmp_neq, dF h]; rfl
/- the same ship -/
theorem Ints_refl {N : Nat} {l : List Int} (hl : l.length < 1000000) (hN : 2 ^ 64 ≤ N) : f_base_Ints N l l = some true := by
  unfold f_base_Ints
  rw [cmp_neq, dT rfl, Bool.not_true, cond_false]
  rw [loop_err (f := f_base_Ints_L1 N l l) (e := fun _ => 0) (n := l.length) (fin := Sum.inl ()) (err := fun z => Sum.inr false) (fun i hi _ => by
    unfold f_base_Ints_L1
    simp only [cmp_lss]
    rw [dT (by omega), cond_true, idxB hi, bS, bS, cmp_neq, dT rfl, w64s (by omega)]; rfl) (fun _ => by
    unfold f_base_Ints_L1
    simp only [cmp_lss]
    rw [dF (by omega)]; rfl) (by omega), firstErr_nil]
  rfl
theorem eqb_refl (l : GLoad) : GLoad.eqb l l = true := by
  unfold GLoad.eqb; simp
theorem Same_refl {N : Nat} {s : GShip} (ht : Tame s) (hN : 2 ^ 64 ≤ N) : f_law02_Same N s s = some true := by
  have h1 := ht.st
  have h2 := ht.it
  unfold f_law02_Same
  rw [eqb_refl, cmpS_neq, dT rfl]
  simp only [cmp_neq, decide_true, Bool.not_true, Bool.or_self, cond_false]
  rw [loop_err (f := f_law02_Same_L2 N s s) (e := fun _ => 0) (n := s.Stations.length) (fin := Sum.inl ()) (err := fun z => Sum.inr false) (fun i hi _ => by
    unfold f_law02_Same_L2
    simp only [cmp_lss, cmp_neq]
    rw [dT (by omega), cond_true, idxB hi, bS, bS, dT rfl, dT rfl, Ints_refl (ht.lv i hi) hN, Ints_refl (ht.hv i hi) hN, w64s (by omega)]; rfl) (fun _ => by
    unfold f_law02_Same_L2
    simp only [cmp_lss]
    rw [dF (by omega)]; rfl) (by omega), firstErr_nil, bS]
  rw [show errOr (Sum.inl ()) (fun z => Sum.inr false) 0 = (Sum.inl () : Unit ⊕ Bool) from rfl, Sum.elim_inl, loop_err (f := f_law02_Same_L1 N s s) (e := fun _ => 0) (n := s.Items.length) (fin := Sum.inl ()) (err := fun z => Sum.inr false) (fun i hi _ => by
    unfold f_law02_Same_L1
    simp only [cmp_lss]
    rw [dT (by omega), cond_true, idxB hi, bS, bS, eqb_refl, w64s (by omega)]; rfl) (fun _ => by
    unfold f_law02_Same_L1
    simp only [cmp_lss]
    rw [dF (by omega)]; rfl) (by omega), firstErr_nil]
  rfl
theorem zeroShip_tame : Tame zeroShip := ⟨by decide, by decide, fun i hi => absurd hi (Nat.not_lt_zero i), fun i hi => absurd hi (Nat.not_lt_zero i), .inl (by decide), fun i hi => absurd hi (Nat.not_lt_zero i)⟩
theorem none_eq {N : Nat} (hN : 2 ^ 64 ≤ N) : f_law02_none N zeroShip = some true := by
  unfold f_law02_none
  rw [show (⟨[], 0, [], (⟨[], 0, 0, 0, 0⟩ : GLoad), []⟩ : GShip) = zeroShip from rfl, Same_refl zeroShip_tame hN]; rfl
theorem sameCen {N : Nat} {c : GCentre} (hx : Len c.X) (hz : Len c.Z) (hN : 2 ^ 64 ≤ N) : f_law02_sameCentre N c c = some true := by
  unfold f_law02_sameCentre
  rw [cmp_eql, cmp_eql, dT rfl, dT rfl, Bool.and_self, cond_true, same_refl hx hN, bS, Bool.and_self, cond_true, same_refl hz hN]; rfl
theorem zeroCen_same {N : Nat} (hN : 2 ^ 64 ≤ N) : f_law02_sameCentre N zeroCen zeroCen = some true := sameCen Len.zero Len.zero hN
theorem tot_same {N : Nat} {s : GShip} (h : ldsErr s = 0) (hN : 2 ^ 64 ≤ N) : f_law02_sameCentre N (totQ s) (totQ s) = some true :=
  sameCen (Len.R (((sxSz h (Nat.le_refl _) : Sz 4000 (sxQ s)).div (massSz h)).mono (show _ ≤ 4064 by omega)) (by omega)) (Len.R (kgSz h) (by omega)) hN

end Go.KB
