/- Plain laws: wastages of the reference, grades of panels. No condition. -/
import Derived.Test.YtcpcedbnpieebaaLPanels1
namespace Go.KB
set_option linter.unusedVariables false
theorem take_one {α : Type} {l : List α} {i : Nat} (hi : i < l.length) : l.take (i + 1) = l.take i ++ [l[i]] := by rw [List.take_add_one, List.getElem?_eq_getElem hi]; rfl
theorem qrat_zero {b : Nat} (hb : b ≠ 0) : qrat false 0 b = ⟨gint false 0, gint false 1⟩ := by
  unfold qrat
  rw [Nat.gcd_zero_left, Nat.zero_div, Nat.div_self (by omega)]
theorem refWastage_eq {N : Nat} {p : GPanel} (he : panelErr p = 0) (hN : 2 ^ 64 ≤ N) : f_ref09_Wastage N p = some (p.Readings.map (wasted p)) := by
  unfold f_ref09_Wastage
  obtain ⟨b1, b2, hlen, hall⟩ := panelErr_zero he
  have := loopN_fold (f := f_ref09_Wastage_L1 N p) p.Readings.length (fun i => (p.Readings.take i).map (wasted p)) (p.Readings.map (wasted p)) (by
    intro i hi
    have ht := hall _ (List.getElem_mem hi)
    unfold f_ref09_Wastage_L1
    simp only []
    rw [cmp_lss, show decide ((i : Int) < (p.Readings.length : Int)) = true by rw [decide_eq_true_eq]; omega, cond_true, idx_nat hi, Option.bind_some, cmp_eql, cmp_gtr]
    rw [take_one hi, List.map_append]
    have happ : ∀ x : GRat, app ((p.Readings.take i).map (wasted p)) [x] = some ((p.Readings.take i).map (wasted p) ++ [x]) := fun x => app_ok (by simp; unfold lim; omega)
    by_cases h0 : p.Readings[i] = 0 ∨ p.Built < p.Readings[i]
    · rw [show (decide (p.Readings[i] = 0) || decide (p.Built < p.Readings[i])) = true by simpa using h0, cond_true, show (0 : Int) = ((0 : Nat) : Int) from rfl, W_eq (by omega) hN, Option.bind_some, happ, Option.bind_some, w64s (by omega)]
      have : wornN p p.Readings[i] = 0 := by unfold wornN; split <;> omega
      simp only [List.map_cons, List.map_nil, wasted, this]
      rw [qrat_zero (by omega)]
    · rw [show (decide (p.Readings[i] = 0) || decide (p.Built < p.Readings[i])) = false by simpa using h0, cond_false, w64 (by omega) (by omega)]
      have hw : p.Built - p.Readings[i] = ((wornN p p.Readings[i] : Nat) : Int) := by unfold wornN; rw [if_neg (by omega)]; omega
      have hb : p.Built = ((p.Built.toNat : Nat) : Int) := by omega
      have hle := wornN_le (p := p) ⟨b1, b2⟩ ht
      rw [hw]
      conv => lhs; rw [hb]
      rw [Q_eq (by omega) (by omega) (by omega) hN, Option.bind_some, happ, Option.bind_some, w64s (by omega)]
      rfl) (by
    unfold f_ref09_Wastage_L1
    simp) N (by omega)
  simp only [List.take_zero, List.map_nil] at this
  rw [this]; rfl
end Go.KB
