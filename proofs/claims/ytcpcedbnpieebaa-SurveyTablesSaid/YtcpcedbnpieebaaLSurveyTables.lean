/- The plain law of SurveyTables: it returns true for every table and every fraction. No condition. -/
import Derived.Test.YtcpcedbnpieebaaPBas
import Derived.Test.YtcpcedbnpieebaaPLoop
import Derived.KernelRfl
namespace Go.KB
set_option linter.unusedVariables false
set_option maxRecDepth 100000

theorem within_eq {N : Nat} {x lo hi : Int} : f_ref09_within N x lo hi = some (inR lo hi x) := rfl
instance : Inhabited GPoint := ⟨⟨0, 0⟩⟩
def ptErr (l : List GPoint) (i : Nat) : Int :=
  if (!(inR 0 1000000000 l[i]!.X) || !(inR 0 1000000000 l[i]!.Y)) = true then 2
  else if 0 < i ∧ l[i]!.X ≤ l[i - 1]!.X then 10 else 0
def tabErr (l : List GPoint) : Int := if l.length < 2 then 11 else if 40 < l.length then 8 else firstErr (ptErr l) l.length 0
structure Tab (l : List GPoint) : Prop where
  l2 : 2 ≤ l.length
  l4 : l.length ≤ 40
  x : ∀ i, i < l.length → 0 ≤ l[i]!.X ∧ l[i]!.X ≤ 1000000000
  y : ∀ i, i < l.length → 0 ≤ l[i]!.Y ∧ l[i]!.Y ≤ 1000000000
  up : ∀ i, i < l.length → 0 < i → l[i - 1]!.X < l[i]!.X
theorem ptErr_zero {l : List GPoint} {i : Nat} (h : ptErr l i = 0) : (0 ≤ l[i]!.X ∧ l[i]!.X ≤ 1000000000) ∧ (0 ≤ l[i]!.Y ∧ l[i]!.Y ≤ 1000000000) ∧ (0 < i → l[i - 1]!.X < l[i]!.X) := by
  unfold ptErr at h
  split at h
  · cases h
  · rename_i hc
    split at h
    · cases h
    · rename_i hd
      simp only [inR, Bool.or_eq_true, Bool.not_eq_true', not_or, Bool.not_eq_false, Bool.and_eq_true, decide_eq_true_eq] at hc
      refine ⟨⟨hc.1.1, hc.1.2⟩, ⟨hc.2.1, hc.2.2⟩, fun h0 => ?_⟩
      rw [not_and] at hd
      have := hd h0
      omega
theorem tab_of {l : List GPoint} (h : tabErr l = 0) : Tab l := by
  unfold tabErr at h
  split at h
  · cases h
  · split at h
    · cases h
    · have hz : ∀ j, j < l.length → ptErr l j = 0 := fun j hj => firstErr_zero h j (by omega) (by omega)
      exact ⟨by omega, by omega, fun i hi => (ptErr_zero (hz i hi)).1, fun i hi => (ptErr_zero (hz i hi)).2.1, fun i hi => (ptErr_zero (hz i hi)).2.2⟩
theorem Tab.mono {l : List GPoint} (h : Tab l) {i : Nat} : ∀ {j : Nat}, i ≤ j → j < l.length → l[i]!.X ≤ l[j]!.X := by
  intro j
  induction j with
  | zero => intro h1 h2; obtain rfl : i = 0 := by omega
            exact Int.le_refl _
  | succ j ih =>
    intro h1 h2
    by_cases he : i = j + 1
    · subst he; exact Int.le_refl _
    · have := ih (by omega) (by omega)
      have h3 := h.up (j + 1) h2 (by omega)
      rw [Nat.add_sub_cancel] at h3
      omega
/- the piece that a number lies in: its upper end, or 0 -/
def inP (l : List GPoint) (q : Rat) (j : Nat) : Bool := decide ((l[j]!.X : Rat) ≤ q) && decide (q ≤ (l[j + 1]!.X : Rat))
def eP (l : List GPoint) (q : Rat) (j : Nat) : Int := if inP l q j = true then ((j + 1 : Nat) : Int) else 0
def eS (l : List GPoint) (q : Rat) (j : Nat) : Int := if q ≤ (l[j + 1]!.X : Rat) then ((j + 1 : Nat) : Int) else 0
def piece (l : List GPoint) (q : Rat) : Int := firstErr (eP l q) (l.length - 1) 0
theorem firstErr_some {e : Nat → Int} : ∀ {k i : Nat}, firstErr e k i ≠ 0 → ∃ j, i ≤ j ∧ j < i + k ∧ firstErr e k i = e j := by
  intro k
  induction k with
  | zero => intro i h; exact absurd rfl h
  | succ k ih =>
    intro i h
    by_cases h0 : e i = 0
    · rw [firstErr_s0 h0] at h ⊢
      obtain ⟨j, h1, h2, h3⟩ := ih h
      exact ⟨j, by omega, by omega, h3⟩
    · rw [firstErr_s1 h0]; exact ⟨i, by omega, by omega, rfl⟩
theorem eP_ne {l : List GPoint} {q : Rat} {j : Nat} : eP l q j ≠ 0 ↔ inP l q j = true := by
  unfold eP
  split
  · rename_i h; simp [h]; omega
  · rename_i h; simp [h]
theorem piece_spec {l : List GPoint} {q : Rat} (h : piece l q ≠ 0) : ∃ j : Nat, j + 1 < l.length ∧ piece l q = ((j + 1 : Nat) : Int) ∧ inP l q j = true := by
  obtain ⟨j, h1, h2, h3⟩ := firstErr_some h
  have h4 : eP l q j ≠ 0 := by rw [← h3]; exact h
  refine ⟨j, by omega, ?_, eP_ne.1 h4⟩
  show firstErr (eP l q) (l.length - 1) 0 = _
  rw [h3]
  unfold eP
  rw [if_pos (eP_ne.1 h4)]
theorem ir_le {a b : Int} (h : a ≤ b) : (a : Rat) ≤ (b : Rat) := by exact_mod_cast h
theorem piece_in {l : List GPoint} {q : Rat} (h : Tab l) (h0 : (l[0]!.X : Rat) ≤ q) : firstErr (eS l q) (l.length - 1) 0 = piece l q := by
  unfold piece
  refine firstErr_congr (fun j h1 h2 hz => ?_)
  unfold eS eP inP
  have hj : (l[j]!.X : Rat) ≤ q := by
    by_cases hj0 : j = 0
    · subst hj0; exact h0
    · have := hz (j - 1) (by omega) (by omega)
      unfold eS at this
      rw [Nat.sub_add_cancel (by omega)] at this
      by_cases hq : q ≤ (l[j]!.X : Rat)
      · rw [if_pos hq] at this; omega
      · grind
  simp only [hj, decide_true, Bool.true_and, decide_eq_true_eq]
theorem piece_out {l : List GPoint} {q : Rat} (h : Tab l) : piece l q = 0 ↔ q < (l[0]!.X : Rat) ∨ (l[l.length - 1]!.X : Rat) < q := by
  have h2 := h.l2
  constructor
  · intro hz
    by_cases h0 : (l[0]!.X : Rat) ≤ q
    · right
      rw [← piece_in h h0] at hz
      have h3 := firstErr_zero hz (l.length - 2) (by omega) (by omega)
      unfold eS at h3
      rw [show l.length - 2 + 1 = l.length - 1 by omega] at h3
      by_cases hq : q ≤ (l[l.length - 1]!.X : Rat)
      · rw [if_pos hq] at h3; omega
      · grind
    · left; grind
  · intro ho
    refine Classical.byContradiction fun hn => ?_
    obtain ⟨j, h3, h4, h5⟩ := piece_spec hn
    unfold inP at h5
    simp only [Bool.and_eq_true, decide_eq_true_eq] at h5
    have m1 := ir_le (h.mono (i := 0) (j := j) (by omega) (by omega))
    have m2 := ir_le (h.mono (i := j + 1) (j := l.length - 1) (by omega) (by omega))
    grind
/- the value -/
def valQ (l : List GPoint) (q : Rat) (i : Nat) : Rat := (l[i - 1]!.Y : Rat) + ((l[i]!.Y - l[i - 1]!.Y : Int) : Rat) / ((l[i]!.X - l[i - 1]!.X : Int) : Rat) * (q - (l[i - 1]!.X : Rat))
theorem valQ_sz {l : List GPoint} {q : Rat} {k i : Nat} (h : Tab l) (hq : Sz k q) (hi : i < l.length) (h0 : 0 < i) : Sz (k + 200) (valQ l q i) := by
  have x0 := h.x _ (show i - 1 < l.length by omega)
  have y0 := h.y _ (show i - 1 < l.length by omega)
  have x1 := h.x _ hi
  have y1 := h.y _ hi
  unfold valQ
  have a1 : Sz 40 (l[i - 1]!.Y : Rat) := Sz.int (by omega)
  have a2 : Sz 40 ((l[i]!.Y - l[i - 1]!.Y : Int) : Rat) := Sz.int (by omega)
  have a3 : Sz 40 ((l[i]!.X - l[i - 1]!.X : Int) : Rat) := Sz.int (by omega)
  have a4 : Sz 40 (l[i - 1]!.X : Rat) := Sz.int (by omega)
  exact (a1.add ((a2.div a3).mul (hq.sub a4))).mono (by omega)
def outT (l : List GPoint) (q : Rat) : GRat × Int := if piece l q = 0 then (zeroR, 6) else (R (valQ l q (piece l q).toNat), 0)
theorem W_q {N : Nat} {z : Int} (h0 : 0 ≤ z ∧ z ≤ 1000000000) (hN : 2 ^ 64 ≤ N) : f_base_W N z = some (R (z : Rat)) ∧ Sz 40 (z : Rat) := ⟨W_R (by omega) (by omega) hN, Sz.int (by omega)⟩
theorem ref_loop {N k : Nat} {l : List GPoint} {x : GRat} {q : Rat} (h : Tab l) (hx : Qf k x q) (hk : k ≤ 1000) (hN : 2 ^ 64 ≤ N) :
    loopN (f_ref09_Interpolate_L1 N l x) N (zeroR, 1) = some (errOr (Sum.inl zeroR) (fun z => Sum.inr (R (valQ l q z.toNat), 0)) (piece l q)) := by
  have h4 := h.l4
  have h2 := h.l2
  refine loop_errG (f := f_ref09_Interpolate_L1 N l x) (e := eP l q) (N := N) (n := l.length - 1) (fin := Sum.inl zeroR) (err := fun z => Sum.inr (R (valQ l q z.toNat), 0)) (fun i => (zeroR, ((i + 1 : Nat) : Int))) (fun i hi hz => ?_) (fun _ => ?_) (by omega)
  · unfold f_ref09_Interpolate_L1
    simp only [cmp_lss, cmp_geq, cmp_leq]
    have g0 : idx l (IntKind.i64.wrap (((i + 1 : Nat) : Int) - 1)) = some l[i]! := by
      have := idxP (l := l) (i := i + 1) (by omega) (by omega) (by omega)
      rw [Nat.add_sub_cancel] at this; exact this
    have g1 : idx l ((i + 1 : Nat) : Int) = some l[i + 1]! := idxB (by omega)
    have x0 := h.x _ (show i < l.length by omega)
    have y0 := h.y _ (show i < l.length by omega)
    have x1 := h.x _ (show i + 1 < l.length by omega)
    have y1 := h.y _ (show i + 1 < l.length by omega)
    have hup := h.up (i + 1) (by omega) (by omega)
    rw [Nat.add_sub_cancel] at hup
    obtain ⟨w0, s0⟩ := W_q x0 hN
    obtain ⟨w1, s1⟩ := W_q x1 hN
    obtain ⟨wy, sy⟩ := W_q y0 hN
    rw [dT (by omega), cond_true, g0, g1]
    simp only [Option.bind_some]
    rw [w0, w1]
    simp only [Option.bind_some]
    rw [rCmpRat_eq hx (Qf.R s0) (by omega) hN, Option.bind_some, rCmpRat_eq hx (Qf.R s1) (by omega) hN, cmpQ_ge, w64s (by omega)]
    unfold eP inP
    by_cases hc0 : (l[i]!.X : Rat) ≤ q
    · rw [dT hc0, cond_true, Option.bind_some, cmpQ_le, Bool.true_and]
      by_cases hc1 : q ≤ (l[i + 1]!.X : Rat)
      · rw [dT hc1, cond_true, if_pos rfl, if_neg (by omega), w64i (n := l[i + 1]!.Y - l[i]!.Y) (by omega) (by omega), w64i (n := l[i + 1]!.X - l[i]!.X) (by omega) (by omega), Q_R (by omega) (by omega) (by omega) (by omega) (by omega) hN]
        simp only [Option.bind_some]
        rw [wy, Option.bind_some, rSubRat_eq hx (Qf.R s0) (by omega) hN, Option.bind_some]
        have a2 : Sz 40 ((l[i + 1]!.Y - l[i]!.Y : Int) : Rat) := Sz.int (by omega)
        have a3 : Sz 40 ((l[i + 1]!.X - l[i]!.X : Int) : Rat) := Sz.int (by omega)
        rw [rMulRat_eq (Qf.R (a2.div a3)) (Qf.R (hx.sz.sub s0)) (by omega) hN, Option.bind_some, rAddRat_eq (Qf.R sy) (Qf.R ((a2.div a3).mul (hx.sz.sub s0))) (by omega) hN, Option.bind_some]
        rw [Int.toNat_natCast]
        unfold valQ
        rw [Nat.add_sub_cancel]
      · rw [dF hc1, cond_false, if_neg (show ¬ (false = true) by decide), if_pos rfl]
    · rw [dF hc0, cond_false, Option.bind_some, Bool.false_and, Bool.false_and, cond_false, if_neg (show ¬ (false = true) by decide), if_pos rfl]
  · unfold f_ref09_Interpolate_L1
    simp only [cmp_lss]
    rw [dF (by omega)]; rfl
theorem piece_at {l : List GPoint} {q : Rat} {i : Nat} (hi : i < l.length - 1) (hz : ∀ j, j < i → eP l q j = 0) (h : eP l q i ≠ 0) : piece l q = eP l q i := by
  have key : ∀ k i0, i0 ≤ i → i < i0 + k → firstErr (eP l q) k i0 = eP l q i := by
    intro k
    induction k with
    | zero => intro i0 h1 h2; omega
    | succ k ih =>
      intro i0 h1 h2
      by_cases he : i0 = i
      · subst he; rw [firstErr_s1 h]
      · rw [firstErr_s0 (hz i0 (by omega))]; exact ih _ (by omega) (by omega)
  exact key _ _ (by omega) (by omega)
theorem ratio_1 {N : Nat} {z : Int} (h0 : -9223372036854775808 ≤ z) (h1 : z ≤ 9223372036854775807) (hN : 2 ^ 64 ≤ N) : f_survey_ratio N z 1 = some (R (z : Rat)) := by
  rw [ratio_R h0 h1 (by omega) (by omega) (by omega) hN]
  congr 2
  rw [show ((1 : Int) : Rat) = 1 from rfl]
  grind
theorem interp1 {N i : Nat} {l : List GPoint} (h : Tab l) (hi : i < l.length) (hN : 2 ^ 64 ≤ N) : f_survey_Interpolate_1 N (i : Int) l = some (R (l[i]!.X : Rat)) := by
  have x0 := h.x _ hi
  unfold f_survey_Interpolate_1
  rw [idxB hi, Option.bind_some, ratio_1 (by omega) (by omega) hN, Option.bind_some]
theorem tab_loop {N : Nat} {l : List GPoint} (hl : l.length < 1000000) (hN : 2 ^ 64 ≤ N) :
    loopN (f_survey_Interpolate_L2 N l) N (zeroR, 0) = some (errOr (Sum.inl zeroR) (fun z => Sum.inr (zeroR, z)) (firstErr (ptErr l) l.length 0)) := by
  refine loop_errG (f := f_survey_Interpolate_L2 N l) (e := ptErr l) (N := N) (n := l.length) (fin := Sum.inl zeroR) (err := fun z => Sum.inr (zeroR, z)) (fun i => (zeroR, (i : Int))) (fun i hi hz => ?_) (fun _ => ?_) (by omega)
  · unfold f_survey_Interpolate_L2
    simp only [cmp_lss, cmp_gtr, cmp_leq]
    rw [dT (by omega), cond_true, idxB hi, Option.bind_some, inside_eq (by simp) (by simp; omega), Option.bind_some, w64s (by omega)]
    simp only [List.all_cons, List.all_nil, Bool.and_true]
    unfold ptErr
    cases h1 : inR 0 1000000000 l[i]!.X with
    | false => rfl
    | true =>
      cases h2 : inR 0 1000000000 l[i]!.Y with
      | false => rfl
      | true =>
        simp only [Bool.and_self, Bool.not_true, cond_false, Bool.or_self, Bool.false_eq_true, if_false]
        by_cases h0 : i = 0
        · subst h0
          rw [dF (by omega), cond_false, Option.bind_some, Bool.false_and, cond_false, show (if 0 < 0 ∧ l[0]!.X ≤ l[0 - 1]!.X then (10 : Int) else 0) = 0 from if_neg (by omega), if_pos rfl]
        · rw [dT (by omega), cond_true, idxP hi h0 hl, Option.bind_some, Bool.true_and]
          by_cases hc : l[i]!.X ≤ l[i - 1]!.X
          · rw [dT hc, show (if 0 < i ∧ l[i]!.X ≤ l[i - 1]!.X then (10 : Int) else 0) = 10 from if_pos ⟨by omega, hc⟩]; rfl
          · rw [dF hc, show (if 0 < i ∧ l[i]!.X ≤ l[i - 1]!.X then (10 : Int) else 0) = 0 from if_neg (fun h => hc h.2)]; rfl
  · unfold f_survey_Interpolate_L2
    simp only [cmp_lss]
    rw [dF (by omega)]; rfl
theorem rtab_loop {N : Nat} {l : List GPoint} (hl : l.length < 1000000) (hN : 2 ^ 64 ≤ N) :
    loopN (f_ref09_Interpolate_L2 N l) N (zeroR, 0) = some (errOr (Sum.inl zeroR) (fun z => Sum.inr (zeroR, z)) (firstErr (ptErr l) l.length 0)) := by
  refine loop_errG (f := f_ref09_Interpolate_L2 N l) (e := ptErr l) (N := N) (n := l.length) (fin := Sum.inl zeroR) (err := fun z => Sum.inr (zeroR, z)) (fun i => (zeroR, (i : Int))) (fun i hi hz => ?_) (fun _ => ?_) (by omega)
  · unfold f_ref09_Interpolate_L2
    simp only [cmp_lss, cmp_gtr, cmp_leq]
    rw [dT (by omega), cond_true, idxB hi, Option.bind_some, within_eq, Option.bind_some, w64s (by omega)]
    unfold ptErr
    cases h1 : inR 0 1000000000 l[i]!.X with
    | false => rfl
    | true =>
      simp only [Bool.not_true, Bool.not_false, cond_true, Option.bind_some, within_eq, Bool.false_or]
      cases h2 : inR 0 1000000000 l[i]!.Y with
      | false => rfl
      | true =>
        simp only [Bool.not_true, cond_false, Bool.false_eq_true, if_false]
        by_cases h0 : i = 0
        · subst h0
          rw [dF (by omega), cond_false, Option.bind_some, cond_false, Option.bind_some, Bool.false_and, cond_false, show (if 0 < 0 ∧ l[0]!.X ≤ l[0 - 1]!.X then (10 : Int) else 0) = 0 from if_neg (by omega), if_pos rfl]
        · rw [dT (by omega), cond_true, Option.bind_some, cond_true, idxP hi h0 hl, Option.bind_some, Bool.true_and]
          by_cases hc : l[i]!.X ≤ l[i - 1]!.X
          · rw [dT hc, show (if 0 < i ∧ l[i]!.X ≤ l[i - 1]!.X then (10 : Int) else 0) = 10 from if_pos ⟨by omega, hc⟩]; rfl
          · rw [dF hc, show (if 0 < i ∧ l[i]!.X ≤ l[i - 1]!.X then (10 : Int) else 0) = 0 from if_neg (fun h => hc h.2)]; rfl
  · unfold f_ref09_Interpolate_L2
    simp only [cmp_lss]
    rw [dF (by omega)]; rfl
theorem find_loop {N k : Nat} {l : List GPoint} {x : GRat} {q : Rat} (h : Tab l) (hx : Qf k x q) (hk : k ≤ 1000) (h0 : (l[0]!.X : Rat) ≤ q) (h9 : q ≤ (l[l.length - 1]!.X : Rat)) (hN : 2 ^ 64 ≤ N) :
    loopN (f_survey_Interpolate_L1 N l x) N 1 = some (piece l q) := by
  have h4 := h.l4
  have h2 := h.l2
  have := loop_errG (f := f_survey_Interpolate_L1 N l x) (e := eS l q) (N := N) (n := l.length - 1) (fin := 0) (err := fun z => z) (fun i => ((i + 1 : Nat) : Int)) (fun i hi hz => by
    unfold f_survey_Interpolate_L1
    simp only [cmp_gtr]
    have x1 := h.x _ (show i + 1 < l.length by omega)
    have s1 : Sz 40 (l[i + 1]!.X : Rat) := Sz.int (by omega)
    rw [interp1 h (by omega) hN, Option.bind_some, CmpRat_eq hx (Qf.R s1) (by omega) hN, Option.bind_some, cmpQ_gt, w64s (by omega)]
    unfold eS
    by_cases hc : q ≤ (l[i + 1]!.X : Rat)
    · rw [dF (by grind), if_pos hc, if_neg (by omega)]; rfl
    · rw [dT (by grind), if_neg hc, if_pos rfl]; rfl) (fun hz => by
    have := hz (l.length - 2) (by omega)
    unfold eS at this
    rw [show l.length - 2 + 1 = l.length - 1 by omega, if_pos h9] at this
    omega) (by omega)
  rw [piece_in h h0] at this
  rw [show (1 : Int) = ((0 + 1 : Nat) : Int) from rfl, this]
  unfold errOr
  by_cases hp : piece l q = 0
  · rw [if_pos hp, hp]
  · rw [if_neg hp]
theorem Interpolate_eq {N k : Nat} {l : List GPoint} {x : GRat} {q : Rat} (hl : l.length < 1000000) (hx : Qf k x q) (hk : k ≤ 1000) (hN : 2 ^ 64 ≤ N) :
    f_survey_Interpolate N l x = some (if tabErr l = 0 then outT l q else (zeroR, tabErr l)) := by
  unfold f_survey_Interpolate
  rw [show ((⟨(⟨false, []⟩ : GInt), (⟨false, []⟩ : GInt)⟩ : GRat)) = zeroR from rfl]
  simp only [cmp_lss, cmp_gtr]
  by_cases h2 : l.length < 2
  · have e : tabErr l = 11 := by unfold tabErr; rw [if_pos h2]
    rw [dT (by omega), cond_true, e]; rfl
  · rw [dF (by omega), cond_false]
    by_cases h40 : 40 < l.length
    · have e : tabErr l = 8 := by unfold tabErr; rw [if_neg h2, if_pos h40]
      rw [dT (by omega), cond_true, e]; rfl
    · rw [dF (by omega), cond_false]
      have e : tabErr l = firstErr (ptErr l) l.length 0 := by unfold tabErr; rw [if_neg h2, if_neg h40]
      rw [tab_loop hl hN, Option.bind_some, ← e]
      unfold errOr
      by_cases hz : tabErr l = 0
      · have h := tab_of hz
        rw [if_pos hz, if_pos hz, Sum.elim_inl]
        have x0 := h.x 0 (by omega)
        have x9 := h.x (l.length - 1) (by omega)
        have s0 : Sz 40 (l[0]!.X : Rat) := Sz.int (by omega)
        have s9 : Sz 40 (l[l.length - 1]!.X : Rat) := Sz.int (by omega)
        have i0 := interp1 (i := 0) h (by omega) hN
        have i9 := interp1 (i := l.length - 1) h (by omega) hN
        rw [show (((0 : Nat)) : Int) = 0 from rfl] at i0
        rw [i0, Option.bind_some, CmpRat_eq hx (Qf.R s0) (by omega) hN, Option.bind_some, cmpQ_lt, w64i (n := (l.length : Int) - 1) (by omega) (by omega), show (l.length : Int) - 1 = ((l.length - 1 : Nat) : Int) by omega, i9]
        have hpo := piece_out (q := q) h
        unfold outT
        by_cases hc0 : q < (l[0]!.X : Rat)
        · rw [dT hc0, if_pos (hpo.2 (.inl hc0))]; rfl
        · rw [dF hc0, Bool.not_false, cond_true, Option.bind_some, cond_true, CmpRat_eq hx (Qf.R s9) (by omega) hN, Option.bind_some, cmpQ_gt, Bool.false_or]
          by_cases hc9 : (l[l.length - 1]!.X : Rat) < q
          · rw [dT hc9, if_pos (hpo.2 (.inr hc9))]; rfl
          · have hp : piece l q ≠ 0 := fun e => by rcases hpo.1 e with h | h <;> contradiction
            rw [dF hc9, cond_false, find_loop h hx hk (by grind) (by grind) hN, Option.bind_some, if_neg hp]
            obtain ⟨j, hj, hpj, hin⟩ := piece_spec hp
            have g0 : idx l (IntKind.i64.wrap (((j + 1 : Nat) : Int) - 1)) = some l[j]! := by
              have := idxP (l := l) (i := j + 1) (by omega) (by omega) (by omega)
              rw [Nat.add_sub_cancel] at this; exact this
            have g1 : idx l ((j + 1 : Nat) : Int) = some l[j + 1]! := idxB (by omega)
            have g2 : IntKind.i64.wrap (((j + 1 : Nat) : Int) - 1) = ((j : Nat) : Int) := by rw [w64i (by omega) (by omega)]; omega
            rw [hpj, g0, g1, g2, interp1 h (by omega) hN]
            simp only [Option.bind_some]
            have xj := h.x j (by omega)
            have yj := h.y j (by omega)
            have xk := h.x (j + 1) (by omega)
            have yk := h.y (j + 1) (by omega)
            have hup := h.up (j + 1) (by omega) (by omega)
            rw [Nat.add_sub_cancel] at hup
            have a1 : Sz 40 (l[j]!.Y : Rat) := Sz.int (by omega)
            have a2 : Sz 40 ((l[j + 1]!.Y - l[j]!.Y : Int) : Rat) := Sz.int (by omega)
            have a3 : Sz 40 ((l[j + 1]!.X - l[j]!.X : Int) : Rat) := Sz.int (by omega)
            have a4 : Sz 40 (l[j]!.X : Rat) := Sz.int (by omega)
            rw [w64i (n := l[j + 1]!.Y - l[j]!.Y) (by omega) (by omega), w64i (n := l[j + 1]!.X - l[j]!.X) (by omega) (by omega), ratio_R (by omega) (by omega) (by omega) (by omega) (by omega) hN, Option.bind_some, SubRat_eq hx (Qf.R a4) (by omega) hN, Option.bind_some, MulRat_eq (Qf.R (a2.div a3)) (Qf.R (hx.sz.sub a4)) (by omega) hN, Option.bind_some, ratio_1 (by omega) (by omega) hN, Option.bind_some, AddRat_eq (Qf.R a1) (Qf.R ((a2.div a3).mul (hx.sz.sub a4))) (by omega) hN, Option.bind_some, Int.toNat_natCast]
            unfold valQ
            rw [Nat.add_sub_cancel]
      · rw [if_neg hz, if_neg hz]; rfl
theorem refInterpolate_eq {N k : Nat} {l : List GPoint} {x : GRat} {q : Rat} (hl : l.length < 1000000) (hx : Qf k x q) (hk : k ≤ 1000) (hN : 2 ^ 64 ≤ N) :
    f_ref09_Interpolate N l x = some (if tabErr l = 0 then outT l q else (zeroR, tabErr l)) := by
  unfold f_ref09_Interpolate
  rw [show ((⟨(⟨false, []⟩ : GInt), (⟨false, []⟩ : GInt)⟩ : GRat)) = zeroR from rfl]
  simp only [cmp_lss, cmp_gtr]
  by_cases h2 : l.length < 2
  · have e : tabErr l = 11 := by unfold tabErr; rw [if_pos h2]
    rw [dT (by omega), cond_true, e]; rfl
  · rw [dF (by omega), cond_false]
    by_cases h40 : 40 < l.length
    · have e : tabErr l = 8 := by unfold tabErr; rw [if_neg h2, if_pos h40]
      rw [dT (by omega), cond_true, e]; rfl
    · rw [dF (by omega), cond_false]
      have e : tabErr l = firstErr (ptErr l) l.length 0 := by unfold tabErr; rw [if_neg h2, if_neg h40]
      rw [rtab_loop hl hN, Option.bind_some, ← e]
      unfold errOr
      by_cases hz : tabErr l = 0
      · have h := tab_of hz
        rw [if_pos hz, if_pos hz, Sum.elim_inl, ref_loop h hx hk hN, Option.bind_some]
        unfold outT errOr
        by_cases hp : piece l q = 0
        · rw [if_pos hp, if_pos hp]; rfl
        · rw [if_neg hp, if_neg hp]; rfl
      · rw [if_neg hz, if_neg hz]; rfl
/- the value lies between its neighbours -/
theorem between {x0 x1 y0 y1 : Int} {q : Rat} (h : x0 < x1) (h0 : (x0 : Rat) ≤ q) (h1 : q ≤ (x1 : Rat)) :
    ((min y0 y1 : Int) : Rat) ≤ (y0 : Rat) + ((y1 - y0 : Int) : Rat) / ((x1 - x0 : Int) : Rat) * (q - (x0 : Rat)) ∧ (y0 : Rat) + ((y1 - y0 : Int) : Rat) / ((x1 - x0 : Int) : Rat) * (q - (x0 : Rat)) ≤ ((max y0 y1 : Int) : Rat) := by
  have hd : (0 : Rat) < ((x1 - x0 : Int) : Rat) := by
    have : (0 : Int) < x1 - x0 := by omega
    exact_mod_cast this
  have hdi : (0 : Rat) ≤ ((x1 - x0 : Int) : Rat)⁻¹ := Rat.le_of_lt (Rat.inv_pos.2 hd)
  have e1 : ((x1 - x0 : Int) : Rat) = (x1 : Rat) - (x0 : Rat) := Rat.intCast_sub _ _
  have e2 : ((y1 - y0 : Int) : Rat) = (y1 : Rat) - (y0 : Rat) := Rat.intCast_sub _ _
  have hm : ((y1 - y0 : Int) : Rat) / ((x1 - x0 : Int) : Rat) * ((x1 - x0 : Int) : Rat) = ((y1 - y0 : Int) : Rat) := Rat.div_mul_cancel (by grind)
  rcases Int.le_total y0 y1 with hy | hy
  · rw [Int.min_eq_left hy, Int.max_eq_right hy]
    have hn : (0 : Rat) ≤ ((y1 - y0 : Int) : Rat) := by
      have : (0 : Int) ≤ y1 - y0 := by omega
      exact_mod_cast this
    have hs : (0 : Rat) ≤ ((y1 - y0 : Int) : Rat) / ((x1 - x0 : Int) : Rat) := by rw [Rat.div_def]; exact Rat.mul_nonneg hn hdi
    generalize ((y1 - y0 : Int) : Rat) / ((x1 - x0 : Int) : Rat) = s at *
    have m1 := Rat.mul_nonneg hs (show 0 ≤ q - (x0 : Rat) by grind)
    have m2 := Rat.mul_nonneg hs (show 0 ≤ (x1 : Rat) - q by grind)
    constructor <;> grind
  · rw [Int.min_eq_right hy, Int.max_eq_left hy]
    have hn : (0 : Rat) ≤ ((y0 - y1 : Int) : Rat) := by
      have : (0 : Int) ≤ y0 - y1 := by omega
      exact_mod_cast this
    have e3 : ((y0 - y1 : Int) : Rat) = (y0 : Rat) - (y1 : Rat) := Rat.intCast_sub _ _
    have hs : (0 : Rat) ≤ -(((y1 - y0 : Int) : Rat) / ((x1 - x0 : Int) : Rat)) := by
      have := Rat.mul_nonneg hn hdi
      rw [Rat.div_def]
      grind
    generalize ((y1 - y0 : Int) : Rat) / ((x1 - x0 : Int) : Rat) = s at *
    have m1 := Rat.mul_nonneg hs (show 0 ≤ q - (x0 : Rat) by grind)
    have m2 := Rat.mul_nonneg hs (show 0 ≤ (x1 : Rat) - q by grind)
    constructor <;> grind
theorem law_loop {N k : Nat} {l : List GPoint} {x : GRat} {q : Rat} (h : Tab l) (hx : Qf k x q) (hk : k ≤ 1000) (hp : piece l q ≠ 0) (hN : 2 ^ 64 ≤ N) :
    loopN (f_law09_SurveyTables_L1 N l x (R (valQ l q (piece l q).toNat), 0)) N 1 = some (Sum.inr true) := by
  have h4 := h.l4
  have h2 := h.l2
  have := loop_errG (f := f_law09_SurveyTables_L1 N l x (R (valQ l q (piece l q).toNat), 0)) (e := eP l q) (N := N) (n := l.length - 1) (fin := Sum.inl ()) (err := fun z => Sum.inr true) (fun i => ((i + 1 : Nat) : Int)) (fun i hi hz => by
    unfold f_law09_SurveyTables_L1
    simp only [cmp_lss, cmp_geq, cmp_leq]
    have g0 : idx l (IntKind.i64.wrap (((i + 1 : Nat) : Int) - 1)) = some l[i]! := by
      have := idxP (l := l) (i := i + 1) (by omega) (by omega) (by omega)
      rw [Nat.add_sub_cancel] at this; exact this
    have g1 : idx l ((i + 1 : Nat) : Int) = some l[i + 1]! := idxB (by omega)
    have x0 := h.x _ (show i < l.length by omega)
    have y0 := h.y _ (show i < l.length by omega)
    have x1 := h.x _ (show i + 1 < l.length by omega)
    have y1 := h.y _ (show i + 1 < l.length by omega)
    have hup := h.up (i + 1) (by omega) (by omega)
    rw [Nat.add_sub_cancel] at hup
    obtain ⟨w0, s0⟩ := W_q x0 hN
    obtain ⟨w1, s1⟩ := W_q x1 hN
    rw [dT (by omega), cond_true, g0, g1]
    simp only [Option.bind_some]
    rw [w0, Option.bind_some, rCmpRat_eq hx (Qf.R s0) (by omega) hN, Option.bind_some, cmpQ_ge, w64s (by omega)]
    by_cases hc0 : (l[i]!.X : Rat) ≤ q
    · rw [dT hc0, cond_true, Option.bind_some, cond_true, w1, Option.bind_some, cond_true, rCmpRat_eq hx (Qf.R s1) (by omega) hN, Option.bind_some, cmpQ_le, Bool.true_and]
      by_cases hc1 : q ≤ (l[i + 1]!.X : Rat)
      · have hin : inP l q i = true := by unfold inP; rw [dT hc0, dT hc1]; rfl
        have hne := eP_ne.2 hin
        have hpe := piece_at hi hz hne
        have hpv : (piece l q).toNat = i + 1 := by rw [hpe]; unfold eP; rw [if_pos hin, Int.toNat_natCast]
        have hb := between (y0 := l[i]!.Y) (y1 := l[i + 1]!.Y) hup hc0 hc1
        obtain ⟨wl, sl⟩ := W_q (z := min l[i]!.Y l[i + 1]!.Y) (by omega) hN
        obtain ⟨wh, sh⟩ := W_q (z := max l[i]!.Y l[i + 1]!.Y) (by omega) hN
        have sv := valQ_sz h hx.sz (show i + 1 < l.length by omega) (by omega)
        rw [dT hc1, cond_true, if_neg hne, wl, Option.bind_some, wh, Option.bind_some, hpv, rCmpRat_eq (Qf.R sv) (Qf.R sl) (by omega) hN, Option.bind_some, cmpQ_ge, rCmpRat_eq (Qf.R sv) (Qf.R sh) (by omega) hN]
        have hv : valQ l q (i + 1) = (l[i]!.Y : Rat) + ((l[i + 1]!.Y - l[i]!.Y : Int) : Rat) / ((l[i + 1]!.X - l[i]!.X : Int) : Rat) * (q - (l[i]!.X : Rat)) := by unfold valQ; rw [Nat.add_sub_cancel]
        rw [hv, dT hb.1, cond_true, Option.bind_some, cmpQ_le, dT hb.2]; rfl
      · have hin : ¬ inP l q i = true := by unfold inP; rw [dF hc1]; simp
        have he : eP l q i = 0 := by unfold eP; rw [if_neg hin]
        rw [dF hc1, cond_false, if_pos he]
    · have hin : ¬ inP l q i = true := by unfold inP; rw [dF hc0]; simp
      have he : eP l q i = 0 := by unfold eP; rw [if_neg hin]
      rw [dF hc0, if_pos he]; rfl) (fun hz => absurd (show piece l q = 0 by
        refine Classical.byContradiction fun hn => ?_
        obtain ⟨j, h3, h4, h5⟩ := piece_spec hn
        exact eP_ne.2 h5 (hz j (by omega))) hp) (by omega)
  rw [show (1 : Int) = ((0 + 1 : Nat) : Int) from rfl, this]
  show some (errOr _ _ (piece l q)) = _
  unfold errOr
  rw [if_neg hp]
theorem awake_true : f_law09_awake (2 ^ 70) = some true := by kernel_rfl
theorem law_SurveyTables (x0 : List GPoint) (x1 : GRat) (h0 : gL GPoint.ok x0) (h1 : x1.ok) : f_law09_SurveyTables (2 ^ 70) x0 x1 = some true := by
  have hN : 2 ^ 64 ≤ (2 ^ 70 : Nat) := by decide
  unfold f_law09_SurveyTables f_base_Short
  rw [awake_true, Option.bind_some, Bool.not_true, cond_false]
  simp only [cmp_gtr, cmp_leq]
  by_cases hl : 45 < x0.length
  · rw [dT (by omega)]; rfl
  · rw [dF (by omega), Bool.not_false, cond_true, Option.bind_some, Bool.false_or]
    cases hs : (decide ((x1.Num.Limbs.length : Int) ≤ 4) && decide ((x1.Den.Limbs.length : Int) ≤ 4)) with
    | false => rfl
    | true =>
      simp only [Bool.and_eq_true, decide_eq_true_eq] at hs
      have hx : Qf 48 x1 (rv x1) := Qf.raw h1 (by omega) (by omega)
      rw [Bool.not_true, cond_false, Interpolate_eq (by omega) hx (by omega) hN, Option.bind_some, refInterpolate_eq (by omega) hx (by omega) hN, Option.bind_some]
      have hz := SameRat_zero (N := 2 ^ 70) hN
      by_cases he : tabErr x0 = 0
      · rw [if_pos he]
        have ht := tab_of he
        unfold outT
        by_cases hp : piece x0 (rv x1) = 0
        · rw [if_pos hp]
          simp only [hz, Option.bind_some]
          rfl
        · rw [if_neg hp]
          obtain ⟨j, hj, hpj, hin⟩ := piece_spec hp
          have sv := valQ_sz (i := (piece x0 (rv x1)).toNat) ht hx.sz (by omega) (by omega)
          simp only []
          rw [SameRat_R sv (by omega) hN, dT rfl, Option.bind_some, law_loop ht hx (by omega) hp hN]
          rfl
      · rw [if_neg he]
        simp only [hz, Option.bind_some, cmp_neq, decide_true, Bool.not_true, Bool.or_self, cond_false]
        rw [dF he]; rfl
end Go.KB
