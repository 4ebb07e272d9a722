/- Plain laws of settings: names, values, whether settings are right. No condition. -/
import Derived.Test.YtblfmjackdhajaaPZl
namespace Go.KB
set_option linter.unusedVariables false
/- texts in their order -/
theorem jR6 : ∀ (x y : Str), Op.bytesLess x y = decide (x < y)
  | [], [] => by simp [Op.bytesLess]
  | _ :: _, [] => by simp [Op.bytesLess]
  | [], _ :: _ => by simp [Op.bytesLess]
  | a :: x, b :: y => by
    rw [Op.bytesLess, jR6 x y]
    simp only [List.cons_lt_cons_iff]
    by_cases h1 : a < b <;> by_cases h2 : a = b <;> by_cases h3 : x < y <;> simp [h1, h2, h3]
theorem jFx (a b c : Str) (h1 : a ≤ b) (h2 : b ≤ c) : a ≤ c := List.le_trans h1 h2
theorem jTk (a b : Str) : a ≤ b ∨ b ≤ a := List.le_total a b
theorem jGz (a b : Str) (h1 : a ≤ b) (h2 : b ≤ a) : a = b := Std.Antisymm.antisymm (r := (· ≤ ·)) a b h1 h2
theorem slt_le {a b : Str} (h : a < b) : a ≤ b := List.le_of_lt h
theorem jCw {a b : Str} (h : a ≤ b) (hn : a ≠ b) : a < b := Classical.byContradiction fun hc => hn (jGz a b h (List.not_lt.1 hc))
theorem jLt {a b : Str} (h : a < b) : a ≠ b := fun e => by rw [e] at h; exact List.lt_irrefl _ h
theorem jMx (a b : Str) : jZj .leq a b = !decide (b < a) := by
  show (Op.bytesLess a b || a == b) = _
  rw [jR6]
  by_cases h : b < a
  · rw [dT h, dF (fun h2 => List.lt_irrefl _ (List.lt_trans h h2))]
    simp only [Bool.false_or, Bool.not_true]
    exact beq_eq_false_iff_ne.2 fun e => by rw [e] at h; exact List.lt_irrefl _ h
  · rw [dF h]
    by_cases he : a = b
    · subst he; simp
    · rw [dT (jCw (List.not_lt.1 h) he)]; rfl
theorem jTb : ∀ (a b : Str), (Lib.compareBytes a b < 0) ↔ a < b
  | [], [] => by simp [Lib.compareBytes]
  | [], _ :: _ => by simp [Lib.compareBytes]
  | _ :: _, [] => by simp [Lib.compareBytes]
  | a :: x, b :: y => by
    unfold Lib.compareBytes
    rw [List.cons_lt_cons_iff]
    by_cases h1 : a < b
    · simp [h1]
    · by_cases h2 : b < a
      · simp only [h1, h2, if_true, if_false, false_or]
        constructor
        · intro h; omega
        · rintro ⟨rfl, _⟩; exact absurd h2 h1
      · have : a = b := UInt8.le_antisymm (UInt8.not_lt.1 h2) (UInt8.not_lt.1 h1)
        subst this
        simp only [h1, if_false, false_or, true_and]
        exact jTb x y
/- values -/
def vch (c : UInt8) : Bool := decide (32 ≤ chr c) && decide (chr c ≤ 126)
def jH0 (s : Str) : Bool := decide (s.length ≤ 60) && s.all vch
theorem jMt {s : Str} {p : UInt8 → Bool} : s.all p = true ↔ ∀ (i : Nat) (h : i < s.length), p s[i] = true := by
  rw [List.all_eq_true]
  exact ⟨fun h i hi => h _ (List.getElem_mem hi), fun h x hx => by obtain ⟨i, hi, rfl⟩ := List.getElem_of_mem hx; exact h i hi⟩
theorem qQd {N : Nat} {s : Str} (hN : s.length < N) (hs : s.length < 1000000) : jKh N s = some (jH0 s) := by
  unfold jKh
  have hL : jZl (jVs N s) N 0 = some (if s.all vch = true then .inl () else .inr false) := by
    refine jHq s.length _ (fun i => ∀ j (h : j < s.length), j < i → vch s[j] = true) ?_ ?_ (fun j _ h => absurd h (Nat.not_lt_zero _)) N hN
    · intro i hi hp
      unfold jVs
      rw [jX8, dT (by omega), cnT, jKm hi, bS, jX8]
      by_cases h1 : chr s[i] < 32
      · refine .inr ?_
        rw [show decide (((UInt8.toNat s[i] : Nat) : Int) < 32) = true from dT h1, Bool.not_true, cnF, bS, Bool.true_or, cnT, if_neg]
        intro h
        have := jMt.1 h i hi
        unfold vch at this
        rw [dF (by omega : ¬ (32 : Int) ≤ chr s[i])] at this
        cases this
      · rw [show decide (((UInt8.toNat s[i] : Nat) : Int) < 32) = false from dF h1, Bool.not_false, cnT, bS, Bool.false_or, jYg]
        by_cases h2 : chr s[i] ≤ 126
        · rw [show decide ((126 : Int) < ((UInt8.toNat s[i] : Nat) : Int)) = false from dF (by unfold chr at h2; omega), cnF, jNe (by omega)]
          refine .inl ⟨rfl, fun j hj hji => ?_⟩
          rcases Nat.lt_succ_iff_lt_or_eq.1 hji with h | rfl
          · exact hp j hj h
          · unfold vch; rw [dT (by omega : (32 : Int) ≤ chr s[j]), dT h2]; rfl
        · rw [show decide ((126 : Int) < ((UInt8.toNat s[i] : Nat) : Int)) = true from dT (by unfold chr at h2; omega), cnT, if_neg]
          · exact .inr rfl
          · intro h
            have := jMt.1 h i hi
            unfold vch at this
            rw [dF h2, Bool.and_false] at this
            cases this
    · intro hp
      unfold jVs
      rw [jX8, dF (by omega), cnF, if_pos (jMt.2 fun i hi => hp i hi hi)]
  rw [hL, bS]
  unfold jH0
  cases h : s.all vch with
  | true => rw [if_pos rfl, jMy]; show some (decide ((s.length : Int) ≤ 60)) = some (decide (s.length ≤ 60) && true); rw [Bool.and_true]; congr 1; exact decide_eq_decide.2 (by omega)
  | false => rw [if_neg (by simp), Bool.and_false]; rfl
theorem jLm {s : Str} {i : Nat} (h : i < s.length) : idx (jVj s) (i : Int) = some (chr s[i]) := by
  unfold jVj
  rw [jKm (by rw [List.length_map]; exact h), List.getElem_map]; rfl
theorem jBk {s : Str} : (jVj s).length = s.length := List.length_map ..
theorem jPa {N : Nat} {s : Str} (hN : 61 ≤ N) : jZ8 N s = some (jH0 s) := by
  unfold jZ8 jH0
  rw [jMy]
  by_cases hl : s.length ≤ 60
  · rw [dT (by omega), cnT]
    have hL : jXd N (jVj s) (fun y0 => jXf N y0) = some (if s.all vch = true then -1 else ((s.findIdx fun c => !vch c : Nat) : Int)) := by
      unfold jXd
      have hk : jZl (jQe N (jVj s) (fun y0 => jXf N y0)) N 0 = some (if s.all vch = true then .inl () else .inr ((s.findIdx fun c => !vch c : Nat) : Int)) := by
        refine jHq s.length _ (fun i => ∀ j (h : j < s.length), j < i → vch s[j] = true) ?_ ?_ (fun j _ h => absurd h (Nat.not_lt_zero _)) N (by omega)
        · intro i hi hp
          unfold jQe
          rw [jX8, jBk, dT (by omega), cnT, jLm hi, bS]
          show ((jXf N (chr s[i])).bind fun v3 => _) = _ ∧ _ ∨ ((jXf N (chr s[i])).bind fun v3 => _) = _
          unfold jXf
          rw [bS, jX8, jYg]
          cases hv : vch s[i] with
          | true =>
            have : (decide (chr s[i] < 32) || decide (126 < chr s[i])) = false := by
              unfold vch at hv
              simp only [Bool.and_eq_true, decide_eq_true_eq] at hv
              rw [dF (by omega), dF (by omega)]; rfl
            rw [this, cnF, jNe (by omega)]
            refine .inl ⟨rfl, fun j hj hji => ?_⟩
            rcases Nat.lt_succ_iff_lt_or_eq.1 hji with h | rfl
            · exact hp j hj h
            · exact hv
          | false =>
            have : (decide (chr s[i] < 32) || decide (126 < chr s[i])) = true := by
              unfold vch at hv
              rw [Bool.and_eq_false_iff] at hv
              rw [Bool.or_eq_true, decide_eq_true_eq, decide_eq_true_eq]
              rcases hv with h | h <;> rw [decide_eq_false_iff_not] at h <;> omega
            rw [this, cnT, if_neg (fun h => by rw [jMt.1 h i hi] at hv; cases hv)]
            refine .inr ?_
            have hfi : (s.findIdx fun c => !vch c) = i := by
              rw [List.findIdx_eq hi]
              exact ⟨by rw [hv]; rfl, fun j hj => by rw [hp j (by omega) hj]; rfl⟩
            rw [hfi]
        · intro hp
          unfold jQe
          rw [jX8, jBk, dF (by omega), cnF, if_pos (jMt.2 fun i hi => hp i hi hi)]
      rw [hk, bS]
      cases s.all vch <;> rfl
    unfold jX1
    rw [hL, bS, bS, jPd, dT hl]
    cases h : s.all vch with
    | true => rfl
    | false =>
      rw [if_neg (by simp), dT (by omega : (0 : Int) ≤ _)]; rfl
  · rw [dF (by omega), dF hl, cnF, bS]; rfl
/- names -/
theorem jT0 {α : Type} {xs : List α} {n : Int} (h : ¬ (0 ≤ n ∧ n < xs.length)) : idx xs n = none := by
  cases hx : idx xs n with
  | none => rfl
  | some y => exact absurd ⟨(jBb hx).1, by have := (jBb hx).2.1; omega⟩ h
theorem qQv (N : Nat) (s : Str) : jVc N s = jT4 s := by
  funext n
  unfold jVc jT4
  rw [jBk]
  by_cases h : 0 ≤ n ∧ n < s.length
  · obtain ⟨i, rfl⟩ : ∃ i : Nat, n = i := ⟨n.toNat, by omega⟩
    have hi : i < s.length := by omega
    rw [jLm hi, jKm hi]; rfl
  · rw [jT0 (xs := s) h, jT0 (xs := jVj s) (by rw [jBk]; exact h)]; rfl
theorem jP8 {N : Nat} {s : Str} (hN : 13 ≤ N) : jVu N s = some (jYl s) := by
  rw [← jR5 (N := N) hN]
  unfold jVu qJ3 jZh
  rw [qQv, bS, jPd, jMy, jX8, jYg]
  congr 1
  rw [Bool.eq_iff_iff]
  simp only [Bool.not_eq_true', Bool.and_eq_false_iff, decide_eq_false_iff_not, Bool.or_eq_true, decide_eq_true_eq]
  omega
/- settings -/
instance : Inhabited GSetting := ⟨⟨[], []⟩⟩
abbrev Sets := List GSetting
def csI (l : Sets) (i : Nat) : Int := if jYl l[i]!.Key = false then 4 else if jH0 l[i]!.Value = false then 3 else if 0 < i ∧ ¬ l[i - 1]!.Key < l[i]!.Key then 10 else 0
def csE (l : Sets) : Int := if 60 < l.length then 8 else jVz (csI l) l.length 0
structure OkS (l : Sets) : Prop where
  len : l.length ≤ 60
  nm : ∀ x ∈ l, jYl x.Key = true
  vl : ∀ x ∈ l, jH0 x.Value = true
  so : l.Pairwise (fun a b => a.Key < b.Key)
theorem cs4 {l : Sets} {i : Nat} (h : jYl l[i]!.Key = false) : csI l i = 4 := by unfold csI; rw [if_pos h]
theorem cs3 {l : Sets} {i : Nat} (h : jYl l[i]!.Key = true) (h2 : jH0 l[i]!.Value = false) : csI l i = 3 := by
  unfold csI; rw [if_neg (fun e => by rw [h] at e; cases e), if_pos h2]
theorem cs10 {l : Sets} {i : Nat} (h : jYl l[i]!.Key = true) (h2 : jH0 l[i]!.Value = true) (h3 : 0 < i ∧ ¬ l[i - 1]!.Key < l[i]!.Key) : csI l i = 10 := by
  unfold csI; rw [if_neg (fun e => by rw [h] at e; cases e), if_neg (fun e => by rw [h2] at e; cases e), if_pos h3]
theorem cs0 {l : Sets} {i : Nat} (h : jYl l[i]!.Key = true) (h2 : jH0 l[i]!.Value = true) (h3 : ¬(0 < i ∧ ¬ l[i - 1]!.Key < l[i]!.Key)) : csI l i = 0 := by
  unfold csI; rw [if_neg (fun e => by rw [h] at e; cases e), if_neg (fun e => by rw [h2] at e; cases e), if_neg h3]
theorem qJw {N : Nat} {l : Sets} (hN : 1000000 ≤ N) : jX5 N l = some (csE l) := by
  unfold jX5 csE
  rw [jYg]
  by_cases hl : 60 < l.length
  · rw [dT (by omega), cnT, if_pos hl]
  · rw [dF (by omega), cnF, if_neg hl]
    refine jF2 (fun i hi hz => ?_) (fun hz => ?_) (by omega)
    · unfold jX7
      rw [jX8, dT (by omega), cnT, idxB hi, bS, jP8 (by omega), bS]
      cases h1 : jYl l[i]!.Key with
      | false => rw [cs4 h1]; rfl
      | true =>
        rw [Bool.not_true, cnF, jPa (by omega), bS]
        cases h2 : jH0 l[i]!.Value with
        | false => rw [cs3 h1 h2]; rfl
        | true =>
          rw [Bool.not_true, cnF, jYg]
          by_cases h0 : i = 0
          · subst h0; rw [cs0 h1 h2 (by omega)]; rfl
          · rw [dT (by omega), cnT, idxP hi h0 (by omega), bS, Bool.true_and, jMx, jNe (by omega)]
            by_cases h3 : l[i - 1]!.Key < l[i]!.Key
            · rw [dT h3, cs0 h1 h2 (fun h => h.2 h3)]; rfl
            · rw [dF h3, cs10 h1 h2 ⟨by omega, h3⟩]; rfl
    · unfold jX7
      rw [jX8, dF (by omega), cnF]
theorem jCp {N : Nat} {l : Sets} (hN : 1000000 ≤ N) (hv : ∀ x ∈ l, x.Value.length < 1000000) : jXr N l = some (csE l) := by
  unfold jXr csE
  rw [jYg]
  by_cases hl : 60 < l.length
  · rw [dT (by omega), cnT, if_pos hl]
  · rw [dF (by omega), cnF, if_neg hl]
    refine jF2 (fun i hi hz => ?_) (fun hz => ?_) (by omega)
    · have hvi : l[i]!.Value.length < 1000000 := by rw [jSc hi]; exact hv _ (List.getElem_mem hi)
      unfold jZv
      rw [jX8, dT (by omega), cnT, idxB hi, bS, jT3 (by omega), bS]
      cases h1 : jYl l[i]!.Key with
      | false => rw [cs4 h1]; rfl
      | true =>
        rw [Bool.not_true, cnF, bS, qQd (by omega) hvi, bS]
        cases h2 : jH0 l[i]!.Value with
        | false => rw [cs3 h1 h2]; rfl
        | true =>
          rw [Bool.not_true, cnF, jYg]
          by_cases h0 : i = 0
          · subst h0; rw [cs0 h1 h2 (by omega)]; rfl
          · rw [dT (by omega), cnT, bS, cnT, idxP hi h0 (by omega), bS, Bool.true_and, jMx, jNe (by omega)]
            by_cases h3 : l[i - 1]!.Key < l[i]!.Key
            · rw [dT h3, cs0 h1 h2 (fun h => h.2 h3)]; rfl
            · rw [dF h3, cs10 h1 h2 ⟨by omega, h3⟩]; rfl
    · unfold jZv
      rw [jX8, dF (by omega), cnF]
theorem so_of {l : Sets} (h : ∀ i, 0 < i → i < l.length → l[i - 1]!.Key < l[i]!.Key) : l.Pairwise (fun a b => a.Key < b.Key) := by
  rw [List.pairwise_iff_getElem]
  intro i j hi hj hij
  have key : ∀ d i (hi : i < l.length) (hj : i + (d + 1) < l.length), l[i].Key < l[i + (d + 1)].Key := by
    intro d
    induction d with
    | zero =>
      intro i hi hj
      have := h (i + 1) (by omega) hj
      rw [Nat.add_sub_cancel, jSc hi, jSc hj] at this
      exact this
    | succ d ih =>
      intro i hi hj
      have h1 := ih i hi (by omega)
      have h2 := h (i + (d + 2)) (by omega) hj
      rw [jSc hj, show i + (d + 2) - 1 = i + (d + 1) by omega, jSc (by omega : i + (d + 1) < l.length)] at h2
      exact List.lt_trans h1 h2
  have := key (j - i - 1) i hi (by omega)
  simp only [show i + (j - i - 1 + 1) = j by omega] at this
  exact this
theorem jNb {l : Sets} : csE l = 0 ↔ OkS l := by
  unfold csE
  constructor
  · intro h
    by_cases hl : 60 < l.length
    · rw [if_pos hl] at h; cases h
    · rw [if_neg hl] at h
      have hz : ∀ i, i < l.length → csI l i = 0 := fun i hi => jB5 h i (by omega) (by omega)
      have hz' : ∀ i, i < l.length → jYl l[i]!.Key = true ∧ jH0 l[i]!.Value = true ∧ (0 < i → l[i - 1]!.Key < l[i]!.Key) := by
        intro i hi
        have := hz i hi
        unfold csI at this
        cases h1 : jYl l[i]!.Key with
        | false => rw [h1, if_pos rfl] at this; cases this
        | true =>
          rw [h1, if_neg (by simp)] at this
          cases h2 : jH0 l[i]!.Value with
          | false => rw [h2, if_pos rfl] at this; cases this
          | true =>
            rw [h2, if_neg (by simp)] at this
            refine ⟨rfl, rfl, fun h0 => Classical.byContradiction fun hc => ?_⟩
            rw [if_pos ⟨h0, hc⟩] at this; cases this
      refine ⟨by omega, fun x hx => ?_, fun x hx => ?_, so_of fun i h0 hi => (hz' i hi).2.2 h0⟩
      · obtain ⟨i, hi, rfl⟩ := List.getElem_of_mem hx
        have := (hz' i hi).1; rwa [jSc hi] at this
      · obtain ⟨i, hi, rfl⟩ := List.getElem_of_mem hx
        have := (hz' i hi).2.1; rwa [jSc hi] at this
  · intro h
    rw [if_neg (by have := h.len; omega)]
    refine (jF9 (e' := fun _ => 0) fun j _ hj _ => ?_).trans jDa
    have hj' : j < l.length := by omega
    unfold csI
    rw [jSc hj', h.nm _ (List.getElem_mem hj'), h.vl _ (List.getElem_mem hj'), if_neg (by simp), if_neg (by simp), if_neg]
    rintro ⟨h0, h1⟩
    apply h1
    rw [jSc (by omega : j - 1 < l.length)]
    exact List.pairwise_iff_getElem.1 h.so (j - 1) j (by omega) hj' (by omega)
end Go.KB
