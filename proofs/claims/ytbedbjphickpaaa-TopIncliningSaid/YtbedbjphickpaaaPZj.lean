/- Plain laws: ships of which an item is moved, of the program. No condition. -/
import Derived.Test.YtbedbjphickpaaaPZg
import Derived.Test.YtbedbjphickpaaaPZe
namespace Go.KB
set_option linter.unusedVariables false
set_option maxRecDepth 100000
theorem shipCopy_eq {N : Nat} {s : GShip} (ht : Tame s) (hN : 2 ^ 64 ≤ N) : f_hull_clone N s = some s := by
 have h1 := ht.st
 have h2 := ht.it
 have happ : ∀ x : List Int, x.length < 1000000 → f_slices_Clonelint_int N x = some x := fun x hx => by
  unfold f_slices_Clonelint_int
  rw [app_ok (by simp; unfold lim; omega)]; rfl
 unfold f_hull_clone f_slices_Clonelapi_Load_api_Load
 rw [app_ok (by simp; unfold lim; omega)]
 have := loop_errG (f := f_hull_clone_L1 N s) (e := fun _ => 0) (N := N) (n := s.Stations.length) (fin := s) (err := fun _ => s) (fun i => (({ s with Stations := s.Stations.take i } : GShip), (i : Int))) (fun i hi _ => by
  unfold f_hull_clone_L1
  simp only [cmp_lss]
  rw [dT (by omega), cond_true, idxB hi, bS, happ _ (ht.lv i hi), bS, happ _ (ht.hv i hi), bS, app_ok (by simp; unfold lim; omega), bS, w64s (by omega), List.take_succ_eq_append_getElem hi, bang hi]
  rfl) (fun _ => by
  unfold f_hull_clone_L1
  simp only [cmp_lss]
  rw [dF (by omega), List.take_length]; rfl) (by omega)
 rw [firstErr_nil] at this
 rw [show loopN (f_hull_clone_L1 N s) N (({ s with Stations := ([] : (List GStation)) } : GShip), 0) = _ from this]; rfl
def fndE (l : List GLoad) (x : Str) (i : Nat) : Int := if l[i]!.Name = x then (i : Int) + 1 else 0
def fnd (l : List GLoad) (x : Str) : Int := firstErr (fndE l x) l.length 0 - 1
theorem fnd_cases (l : List GLoad) (x : Str) : fnd l x = -1 ∨ ∃ i : Nat, i < l.length ∧ fnd l x = (i : Int) ∧ l[i]!.Name = x ∧ ∀ m, m < i → l[m]!.Name ≠ x := by
  unfold fnd
  by_cases h : firstErr (fndE l x) l.length 0 = 0
  · exact .inl (by omega)
  · obtain ⟨j, _, h2, h3, h4, h5⟩ := firstErr_at h
    refine .inr ⟨j, by omega, ?_, ?_, fun m hm he => ?_⟩
    · rw [h3]; unfold fndE at h4 ⊢
      split
      · omega
      · rename_i hn; rw [if_neg hn] at h4; exact absurd rfl h4
    · unfold fndE at h4
      split at h4
      · assumption
      · exact absurd rfl h4
    · have := h5 m (by omega) hm
      unfold fndE at this
      rw [if_pos he] at this; omega
theorem IndexFunc_eq {N : Nat} {l : List GLoad} {x : Str} (hl : l.length < 1000000) (hN : 2 ^ 64 ≤ N) : f_slices_IndexFunclapi_Load_api_Load N l (fun y0 => f_hull_find_1 N y0 x) = some (fnd l x) := by
 unfold f_slices_IndexFunclapi_Load_api_Load
 rw [loop_err (f := f_slices_IndexFunclapi_Load_api_Load_L1 N l (fun y0 => f_hull_find_1 N y0 x)) (e := fndE l x) (n := l.length) (fin := Sum.inl ()) (err := fun z => Sum.inr (z - 1)) (fun i hi _ => by
  unfold f_slices_IndexFunclapi_Load_api_Load_L1 f_hull_find_1
  simp only [cmp_lss, cmpS_eql]
  rw [dT (by omega), cond_true, idxB hi, bS, bS, w64s (by omega)]
  unfold fndE
  by_cases h : l[i]!.Name = x
  ·rw [dT h, if_pos h, cond_true, if_neg (by omega), show (i : Int) + 1 - 1 = (i : Int) by omega]
  ·rw [dF h, if_neg h]; rfl) (fun _ => by
  unfold f_slices_IndexFunclapi_Load_api_Load_L1
  simp only [cmp_lss]
  rw [dF (by omega)]; rfl) (by omega), bS]
 unfold errOr fnd
 by_cases h : firstErr (fndE l x) l.length 0 = 0
 ·rw [if_pos h, h]; rfl
 ·rw [if_neg h]; rfl
def zeroShip : GShip := ⟨[], 0, [], (⟨[], 0, 0, 0, 0⟩ : GLoad), []⟩
def zeroCen : GCentre := ⟨0, zeroR, zeroR, 0⟩
theorem Loads_eq {N : Nat} {s : GShip} (ht : Tame s) (hN : 2 ^ 64 ≤ N) : f_hull_Loads N s = some (if shpErr s = 0 then (totQ s, 0) else (zeroCen, shpErr s)) := by
 unfold f_hull_Loads
 rw [hCheck_eq ht hN, bS, cmp_neq]
 by_cases h : shpErr s = 0
 ·rw [dT h, Bool.not_true, cond_false, total_eq (shp_lds h) hN, if_pos h]; rfl
 ·rw [dF h, if_neg h]; rfl
theorem Tame.items {s : GShip} (ht : Tame s) {l : List GLoad} (hl : l.length < 1000000) : Tame { s with Items := l } := ⟨ht.st, hl, ht.lv, ht.hv, ht.s6, ht.l8⟩
theorem find_eq {N : Nat} {s : GShip} {x : Str} (ht : Tame s) (hN : 2 ^ 64 ≤ N) :
  f_hull_find N s x = some (if shpErr s = 0 then (if fnd s.Items x < 0 then (zeroShip, 0, 6) else (s, fnd s.Items x, 0)) else (zeroShip, 0, shpErr s)) := by
 unfold f_hull_find
 rw [hCheck_eq ht hN, bS, cmp_neq]
 by_cases h : shpErr s = 0
 ·rw [dT h, Bool.not_true, cond_false, IndexFunc_eq ht.it hN, bS, cmp_lss, if_pos h]
  by_cases h2 : fnd s.Items x < 0
  ·rw [dT h2, if_pos h2]; rfl
  ·rw [dF h2, if_neg h2, cond_false, shipCopy_eq ht hN]; rfl
 ·rw [dF h, if_neg h]; rfl
def there (l : GLoad) (x z : Int) : GLoad := { ({ l with X := x } : GLoad) with Z := z }
def moved (s : GShip) (i : Nat) (x z : Int) : GShip := { s with Items := s.Items.set i (there s.Items[i]! x z) }
theorem Move_eq {N : Nat} {s : GShip} {n : Str} {x z : Int} (ht : Tame s) (hN : 2 ^ 64 ≤ N) :
    f_hull_Move N s n x z = some (if shpErr s = 0 then (if fnd s.Items n < 0 then (zeroShip, 6) else
      (if numErr (there s.Items[(fnd s.Items n).toNat]! x z) 0 = 0 then (moved s (fnd s.Items n).toNat x z, 0) else (zeroShip, numErr (there s.Items[(fnd s.Items n).toNat]! x z) 0))) else (zeroShip, shpErr s)) := by
  have hl := ht.it
  unfold f_hull_Move
  rw [find_eq ht hN, bS]
  by_cases h : shpErr s = 0
  · rw [if_pos h, if_pos h]
    rcases fnd_cases s.Items n with h2 | ⟨i, hi, h2, _, _⟩
    · rw [if_pos (by omega), if_pos (by omega)]; rfl
    · rw [if_neg (by omega), if_neg (by omega)]
      dsimp only
      have ei : ∀ (l : List GLoad) (y : GLoad), i < l.length → idx (l.set i y) (i : Int) = some y := fun l y hy => by
        rw [idx_nat (by simpa using hy)]; simp
      rw [h2, cmp_neq, dT rfl, Bool.not_true, cond_false, idxB hi, bS, Int.toNat_natCast, ei _ _ hi, bS, ei _ _ (by simpa using hi), bS, hNum_eq, bS, cmp_neq, List.set_set]
      show (bif !decide (numErr (there s.Items[i]! x z) 0 = 0) then _ else _) = _
      by_cases h3 : numErr (there s.Items[i]! x z) 0 = 0
      · rw [dT h3, if_pos h3]; rfl
      · rw [dF h3, if_neg h3]; rfl
  · rw [if_neg h, if_neg h]
    dsimp only
    rw [cmp_neq, dF h]; rfl

theorem moved_err {s : GShip} {i : Nat} {x z : Int} (h : shpErr s = 0) (hi : i < s.Items.length) : shpErr (moved s i x z) = numErr (there s.Items[i]! x z) 0 := by
  have hl := shp_lds h
  have hget : ∀ j, j < s.Items.length → (moved s i x z).Items[j]! = if j = i then there s.Items[i]! x z else s.Items[j]! := fun j hj => by
    show (s.Items.set i (there s.Items[i]! x z))[j]! = _
    rw [bang (by simpa using hj)]
    by_cases hji : j = i
    · subst hji; rw [if_pos rfl]; simp
    · rw [if_neg hji, bang hj]; simp [Ne.symm hji]
  have hnm : ∀ j, j < s.Items.length + 1 → nmF (moved s i x z) j = nmF s j := fun j hj => by
    cases j with
    | zero => rfl
    | succ k =>
      show (moved s i x z).Items[k]!.Name = s.Items[k]!.Name
      rw [hget k (by omega)]
      split
      · rename_i hk; rw [hk]; rfl
      · rfl
  have hlen : (moved s i x z).Items.length = s.Items.length := by show (s.Items.set i _).length = _; simp
  have hl0 := hl
  have key : ldsErr (moved s i x z) = numErr (there s.Items[i]! x z) 0 := by
    unfold ldsErr at hl ⊢
    rw [show (moved s i x z).Light = s.Light from rfl, hlen]
    split at hl
    · rename_i hn
      rw [if_pos hn]
      split at hl
      · rename_i hm
        rw [if_pos hm]
        split at hl
        · cases hl
        · rename_i h60
          rw [if_neg h60]
          have hz : ∀ j, j < s.Items.length → itErr s j = 0 := fun j hj => firstErr_zero hl j (by omega) (by omega)
          have he : ∀ j, j < s.Items.length → itErr (moved s i x z) j = if j = i then numErr (there s.Items[i]! x z) 0 else 0 := fun j hj => by
            have h3 := hz j hj
            unfold itErr at h3 ⊢
            have hname : (moved s i x z).Items[j]!.Name = s.Items[j]!.Name := hnm (j + 1) (by omega)
            rw [hname, dup_congr (fun k hk => hnm k (by omega))]
            split at h3
            · rename_i h4
              rw [if_pos h4]
              split at h3
              · cases h3
              · rename_i h5
                rw [if_neg h5, hget j hj]
                by_cases hji : j = i
                · rw [if_pos hji, if_pos hji]
                · rw [if_neg hji, if_neg hji]; exact h3
            · cases h3
          by_cases h9 : numErr (there s.Items[i]! x z) 0 = 0
          · rw [firstErr_congr (e' := fun _ => 0) (fun j _ hj _ => by
              rw [he j (by omega)]
              split
              · exact h9
              · rfl), firstErr_nil, h9]
          · by_cases h10 : firstErr (itErr (moved s i x z)) s.Items.length 0 = 0
            · have := firstErr_zero h10 i (by omega) (by omega)
              rw [he i hi, if_pos rfl] at this
              exact absurd this h9
            · obtain ⟨j, _, h2, h3, h4, _⟩ := firstErr_at h10
              rw [h3, he j (by omega)]
              rw [he j (by omega)] at h4
              split at h4
              · rename_i hji; rw [if_pos hji]
              · exact absurd rfl h4
      · rename_i hm; exact absurd hl hm
    · cases hl
  unfold shpErr at h ⊢
  rw [key]
  show (if isName s.Name = true then (if (inR 1 1000000 s.Length && inR 1 40 (s.Stations.length : Int)) = true then (if firstErr (staErr s.Stations) s.Stations.length 0 = 0 then _ else firstErr (staErr s.Stations) s.Stations.length 0) else 2) else 4) = _
  split at h
  · split at h
    · split at h
      · rename_i h1 h2 h3; rw [if_pos h1, if_pos h2, if_pos h3]
      · rename_i h3; exact absurd h h3
    · cases h
  · cases h
end Go.KB
