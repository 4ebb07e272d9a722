/- The plain law: a merge without conflicts does the edits of both sides. No condition. -/
import Derived.Test.YtblfmjackdhajaaPBe3
import Derived.Test.YtblfmjackdhajaaPBe0
namespace Go.KB
set_option linter.unusedVariables false
section
variable {N : Nat}
def wE (l : Sets) (i : Nat) : Int := if 40 < l[i]!.Key.length ∨ 100 < l[i]!.Value.length then 1 else 0
theorem wE1 {l : Sets} {i : Nat} (h : 40 < l[i]!.Key.length ∨ 100 < l[i]!.Value.length) : wE l i = 1 := if_pos h
theorem wE0 {l : Sets} {i : Nat} (h : ¬(40 < l[i]!.Key.length ∨ 100 < l[i]!.Value.length)) : wE l i = 0 := if_neg h
theorem jPq {l : Sets} (hN : 1000000 ≤ N) : ∃ b, jYz N l = some b ∧ (b = false → l.length ≤ 70 ∧ ∀ x ∈ l, x.Value.length ≤ 100) := by
  unfold jYz jGv
  rw [jYg]
  by_cases hl : 70 < l.length
  · exact ⟨true, by rw [dT (by omega), cnT]; rfl, fun h => by cases h⟩
  · rw [dF (by omega), cnF]
    have key := jR3 (f := jWb N l) (n := l.length) (N := N) (e := wE l) (fin := (Sum.inl () : Unit ⊕ Bool)) (err := fun _ => .inr true) (fun i hi hz => ?_) (fun hz => ?_) (by omega)
    · rw [key]
      unfold jCy
      by_cases h : jVz (wE l) l.length 0 = 0
      · rw [if_pos h]
        refine ⟨false, rfl, fun _ => ⟨by omega, fun x hx => ?_⟩⟩
        obtain ⟨i, hi, rfl⟩ := List.getElem_of_mem hx
        have := jB5 h i (by omega) (by omega)
        by_cases hc : 40 < l[i]!.Key.length ∨ 100 < l[i]!.Value.length
        · rw [wE1 hc] at this; cases this
        · rw [jSc hi] at hc; omega
      · rw [if_neg h]; exact ⟨true, rfl, fun h => by cases h⟩
    · unfold jWb
      rw [jX8, dT (by omega), cnT, idxB hi, bS, jYg]
      by_cases h1 : 40 < l[i]!.Key.length
      · rw [dT (by omega), Bool.not_true, cnF, bS, Bool.true_or, cnT, wE1 (.inl h1)]; rfl
      · rw [dF (by omega), Bool.not_false, cnT, bS, Bool.false_or, jYg]
        by_cases h2 : 100 < l[i]!.Value.length
        · rw [dT (by omega), cnT, wE1 (.inr h2)]; rfl
        · rw [dF (by omega), cnF, wE0 (by omega), jNe (by omega), if_pos rfl]
    · unfold jWb
      rw [jX8, dF (by omega), cnF]
theorem qJe {X Y : List jQp} (hX : X.length ≤ 1000) (hY : Y.length ≤ 1000) (hN : 1000000 ≤ N) : jZl (jXs N (X, 0) (Y, 0)) N ([], 0) = some (Y.filter fun e => !decide (e ∈ X)) := by
  have key := jBx (f := jXs N (X, 0) (Y, 0)) Y.length (fun i => (Y.take i).filter fun e => !decide (e ∈ X)) (Y.filter fun e => !decide (e ∈ X)) (fun i hi => ?_) ?_ N (by omega)
  · exact key
  · have hin : jZl (jXt N (X, 0) (Y, 0) ((Y.take i).filter (fun e => !decide (e ∈ X)), (i : Int))) N (false, 0) = some (decide (Y[i] ∈ X)) := by
      have hk := jBx (f := jXt N (X, 0) (Y, 0) ((Y.take i).filter (fun e => !decide (e ∈ X)), (i : Int))) X.length (fun j => decide (Y[i] ∈ X.take j)) (decide (Y[i] ∈ X)) (fun j hj => ?_) ?_ N (by omega)
      · rw [show (false, (0 : Int)) = (decide (Y[i] ∈ X.take 0), (0 : Int)) from by simp]; exact hk
      · have hm : decide (Y[i] ∈ X.take (j + 1)) = (decide (Y[i] ∈ X.take j) || decide (X[j] = Y[i])) := by
          rw [List.take_succ_eq_append_getElem hj, Bool.eq_iff_iff]
          simp only [List.mem_append, List.mem_singleton, decide_eq_true_eq, Bool.or_eq_true]
          exact or_congr Iff.rfl eq_comm
        rw [hm]
        unfold jXt
        dsimp only
        rw [jX8, dT (by omega), cnT, jNe (by omega)]
        cases hs : decide (Y[i] ∈ X.take j) with
        | true => rfl
        | false =>
          rw [Bool.not_false, cnT, jKm hj, bS, cnT, jKm hi, bS, jAq]
      · unfold jXt
        dsimp only
        rw [jX8, dF (by omega), cnF, List.take_length]
    have hfl : ((Y.take i).filter fun e => !decide (e ∈ X)).length ≤ 1000 := Nat.le_trans (List.length_filter_le _ _) (by rw [List.length_take]; omega)
    have hnext : (Y.take (i + 1)).filter (fun e => !decide (e ∈ X)) = (Y.take i).filter (fun e => !decide (e ∈ X)) ++ (bif !decide (Y[i] ∈ X) then [Y[i]] else []) := by
      rw [List.take_succ_eq_append_getElem hi, List.filter_append, List.filter_cons]
      cases decide (Y[i] ∈ X) <;> rfl
    unfold jXs
    dsimp only
    rw [jX8, dT (by omega), cnT, hin, bS, hnext]
    cases decide (Y[i] ∈ X) with
    | true => rw [Bool.not_true, cnF, jNe (by omega), cnF, List.append_nil]
    | false => rw [Bool.not_false, cnT, jKm hi, bS, jMp (by simp only [List.length_cons, List.length_nil]; omega), bS, jNe (by omega), cnT]
  · unfold jXs
    dsimp only
    rw [jX8, dF (by omega), cnF, List.take_length]
end
section
variable {b l r : Sets}
theorem val_nil : jH0 [] = true := rfl
theorem jR8 (hl : OkS l) (k : Str) : jH0 (gt (jQa l) k).value = true := by
  rcases jF3 (l := l) k with h | h
  · rw [h]; rfl
  · have : (⟨k, (gt (jQa l) k).value⟩ : GSetting) ∈ l := (jPg hl.so).2 (by rw [← h])
    exact hl.vl _ this
theorem jM7 (k : Str) (h : (gt (jQa l) k).has = false) : gt (jQa l) k = zS := by
  rcases jF3 (l := l) k with e | e
  · exact e
  · rw [h] at e; cases e
theorem jAv (hl : OkS l) {k : Str} (h : gt (jQa l) k ≠ zS) : jYl k = true := by
  have hk := jP9 h
  rw [jN9] at hk
  obtain ⟨x, hx, rfl⟩ := List.mem_map.1 hk
  exact hl.nm x hx
/- edits out of a difference, done in settings that say of their keys what the base says -/
theorem qQk (hb : OkS b) (hr : OkS r) {t : Sets} {E : List jQp} (hE : E.Sublist (dfL b r)) (ht : ∀ e ∈ E, gt (jQa t) e.Key = gt (jQa b) e.Key) : EdOk (jQa t) E := by
  have hm : ∀ e ∈ E, gt (jQa b) e.Key ≠ gt (jQa r) e.Key ∧ e = edS (jQa b) (jQa r) e.Key := fun e he => jD0.1 (hE.subset he)
  refine ⟨Nat.le_trans hE.length_le (jCx hb hr), qJy.sublist hE, fun e he => ?_, fun e he => ?_, fun e he => ?_, fun e he h => ?_, fun e he h => ?_, fun e he => ?_, fun e he => ?_⟩
  · by_cases h : gt (jQa b) e.Key = zS
    · exact jAv hr fun h2 => (hm e he).1 (h.trans h2.symm)
    · exact jAv hb h
  · rw [(hm e he).2]; exact jR8 hb _
  · rw [(hm e he).2]; exact jR8 hr _
  · rw [(hm e he).2] at h ⊢
    show (gt (jQa b) e.Key).value = []
    rw [jM7 _ h]; rfl
  · rw [(hm e he).2] at h ⊢
    show (gt (jQa r) e.Key).value = []
    rw [jM7 _ h]; rfl
  · refine Classical.byContradiction fun hc => (hm e he).1 ?_
    simp only [not_or, Bool.not_eq_true] at hc
    rw [(hm e he).2] at hc
    exact (jM7 _ hc.1).trans (jM7 _ hc.2).symm
  · rw [ht e he]
    conv => rhs; rw [(hm e he).2]
    rfl
theorem qJ9 {E : List jQp} (hE : E.Sublist (dfL b r)) {t : Sets} (ht : (ky (jQa t)).Nodup) (k : Str) : gt (jDs (jQa t) E) k = if ∃ e ∈ E, e.Key = k then gt (jQa r) k else gt (jQa t) k := by
  have hm : ∀ e ∈ E, gt (jQa b) e.Key ≠ gt (jQa r) e.Key ∧ e = edS (jQa b) (jQa r) e.Key := fun e he => jD0.1 (hE.subset he)
  have hn : ∀ e ∈ E, e.Has = false → e.New = [] := fun e he h => by
    rw [(hm e he).2] at h ⊢
    show (gt (jQa r) e.Key).value = []
    rw [jM7 _ h]; rfl
  by_cases h : ∃ e ∈ E, e.Key = k
  · rw [if_pos h]
    obtain ⟨e, he, rfl⟩ := h
    rw [jLy ht hn (qJy.sublist hE) he]
    conv => lhs; rw [(hm e he).2]
    rfl
  · rw [if_neg h]
    exact jHv ht hn fun e he hk => h ⟨e, he, hk⟩
theorem df_key (k : Str) : (∃ e ∈ dfL b r, e.Key = k) ↔ gt (jQa b) k ≠ gt (jQa r) k := by
  constructor
  · rintro ⟨e, he, rfl⟩; exact (jD0.1 he).1
  · intro h; exact ⟨edS (jQa b) (jQa r) k, jD0.2 ⟨h, rfl⟩, rfl⟩
theorem jAf (k : Str) : (∃ e ∈ (dfL b r).filter fun e => !decide (e ∈ dfL b l), e.Key = k) ↔ gt (jQa b) k ≠ gt (jQa r) k ∧ gt (jQa l) k ≠ gt (jQa r) k := by
  constructor
  · rintro ⟨e, he, rfl⟩
    rw [List.mem_filter] at he
    obtain ⟨h1, h2⟩ := jD0.1 he.1
    refine ⟨h1, fun h => ?_⟩
    have hx : e ∈ dfL b l := jD0.2 ⟨by rw [h]; exact h1, by rw [h2]; unfold edS; rw [h]⟩
    have := he.2
    rw [dT hx] at this; cases this
  · rintro ⟨h1, h2⟩
    refine ⟨edS (jQa b) (jQa r) k, List.mem_filter.2 ⟨jD0.2 ⟨h1, rfl⟩, ?_⟩, rfl⟩
    rw [dF]
    · rfl
    · intro hx
      obtain ⟨h3, h4⟩ := jD0.1 hx
      apply h2
      have h5 : edS (jQa b) (jQa r) k = edS (jQa b) (jQa l) k := h4
      unfold edS at h5
      simp only [jQp.mk.injEq, true_and] at h5
      cases hA : gt (jQa l) k; cases hB : gt (jQa r) k
      rw [hA, hB] at h5
      obtain ⟨e1, e2⟩ := h5
      cases e1; cases e2; rfl
end
theorem law_TopBothEdits (x0 x1 x2 : List GSetting) (h0 : gL GSetting.ok x0) (h1 : gL GSetting.ok x1) (h2 : gL GSetting.ok x2) : jW9 (2 ^ 70) x0 x1 x2 = some true := by
  have hten := jA1
  generalize hN : (2 : Nat) ^ 70 = N at *
  have hN' : 1000000 ≤ N := by subst hN; decide
  unfold jW9
  obtain ⟨w0, e0, k0⟩ := jPq (N := N) (l := x0) hN'
  rw [e0, bS]
  cases w0 with
  | true => simp only [Bool.not_true, cnF, bS, Bool.true_or, cnT, hten]
  | false =>
    obtain ⟨w1, e1, k1⟩ := jPq (N := N) (l := x1) hN'
    simp only [Bool.not_false, cnT, e1, bS, Bool.false_or]
    cases w1 with
    | true => simp only [Bool.not_true, cnF, bS, Bool.true_or, cnT, hten]
    | false =>
      obtain ⟨w2, e2, k2⟩ := jPq (N := N) (l := x2) hN'
      simp only [Bool.not_false, cnT, e2, bS, Bool.false_or]
      cases w2 with
      | true => simp only [Bool.not_true, cnF, bS, Bool.true_or, cnT, hten]
      | false =>
        obtain ⟨l0, v0⟩ := k0 rfl
        obtain ⟨l1, v1⟩ := k1 rfl
        obtain ⟨l2, v2⟩ := k2 rfl
        rw [Bool.not_false, cnT, jCp hN' (fun x hx => by have := v0 x hx; omega), bS, jUh]
        by_cases hb : csE x0 = 0
        case neg => simp only [dF hb, Bool.not_false, Bool.not_true, cnF, bS, Bool.false_or, Bool.true_or, cnT, hten]
        rw [hb, dT rfl, Bool.not_true, Bool.or_false, Bool.not_false, cnT, jCp hN' (fun x hx => by have := v1 x hx; omega), bS, jUh]
        by_cases hl : csE x1 = 0
        case neg => simp only [dF hl, Bool.not_false, Bool.not_true, cnF, bS, Bool.false_or, Bool.true_or, cnT, hten]
        rw [hl, dT rfl, Bool.not_true, Bool.or_false, Bool.not_false, cnT, jCp hN' (fun x hx => by have := v2 x hx; omega), bS, jUh]
        by_cases hr : csE x2 = 0
        case neg => simp only [dF hr, Bool.not_false, bS, Bool.false_or, Bool.true_or, cnT, hten]
        rw [hr, dT rfl, Bool.not_true, Bool.or_false, Bool.false_or, jYg]
        have ew : IntKind.i64.wrap (IntKind.i64.wrap ((x0.length : Int) + (x1.length : Int)) + (x2.length : Int)) = ((x0.length + x1.length + x2.length : Nat) : Int) := by
          rw [w64i (n := (x0.length : Int) + (x1.length : Int)) (by omega) (by omega), w64i (by omega) (by omega)]; omega
        rw [ew]
        by_cases h60 : x0.length + x1.length + x2.length ≤ 60
        case neg => rw [dT (by omega), cnT, hten]; rfl
        rw [dF (by omega), cnF]
        have ob := jNb.1 hb
        have ol := jNb.1 hl
        have or_ := jNb.1 hr
        obtain ⟨m, hm1, hm2, hm3⟩ := jAn ob ol or_ h60 hN'
        rw [hm1, bS, jT7 ob ol hN', bS, jT7 ob or_ hN', bS]
        dsimp only
        rw [show IntKind.i64.wrap (IntKind.i64.wrap ((0 : Int) + 0) + 0) = 0 from rfl, jUh, dT rfl, Bool.not_true, cnF, jYg]
        generalize hK : ksL (ky (jQa x0) ++ ky (jQa x1) ++ ky (jQa x2)) = K at *
        have hKl : K.length ≤ 60 := by
          have := jR7 (l := ky (jQa x0) ++ ky (jQa x1) ++ ky (jQa x2))
          rw [List.length_append, List.length_append, jBn, jBn, jBn, jYe, jYe, jYe, hK] at this
          omega
        have hKm : ∀ k, k ∉ K → gt (jQa x0) k = zS ∧ gt (jQa x1) k = zS ∧ gt (jQa x2) k = zS := by
          intro k hk
          rw [← hK] at hk
          have hk' : ¬ k ∈ ky (jQa x0) ++ ky (jQa x1) ++ ky (jQa x2) := fun h => hk (jT8.2 h)
          simp only [List.mem_append, not_or] at hk'
          exact ⟨jUf hk'.1.1, jUf hk'.1.2, jUf hk'.2⟩
        by_cases hcf : K.filter (cfS (jQa x0) (jQa x1) (jQa x2)) = []
        case neg =>
          have : 0 < (K.filter (cfS (jQa x0) (jQa x1) (jQa x2))).length := List.length_pos_iff.2 hcf
          rw [dT (by omega), cnT, hten]; rfl
        have hno : ∀ k, gt (jQa x1) k = gt (jQa x2) k ∨ gt (jQa x2) k = gt (jQa x0) k ∨ gt (jQa x1) k = gt (jQa x0) k := by
          intro k
          by_cases hk : k ∈ K
          · have := List.filter_eq_nil_iff.1 hcf k hk
            unfold cfS at this
            rw [Bool.not_eq_true, Bool.not_eq_false'] at this
            simp only [Bool.or_eq_true, decide_eq_true_eq] at this
            rcases this with (h | h) | h
            · exact .inl h
            · exact .inr (.inl h)
            · exact .inr (.inr h)
          · obtain ⟨a, b, c⟩ := hKm k hk
            exact .inl (b.trans c.symm)
        have hmg : ∀ k, mgS (jQa x0) (jQa x1) (jQa x2) k = if gt (jQa x1) k = gt (jQa x2) k ∨ gt (jQa x2) k = gt (jQa x0) k then gt (jQa x1) k else gt (jQa x2) k := by
          intro k
          unfold mgS
          by_cases h : gt (jQa x1) k = gt (jQa x2) k ∨ gt (jQa x2) k = gt (jQa x0) k
          · rw [if_pos h]
            have : (decide (gt (jQa x1) k = gt (jQa x2) k) || decide (gt (jQa x2) k = gt (jQa x0) k)) = true := by
              rw [Bool.or_eq_true, decide_eq_true_eq, decide_eq_true_eq]; exact h
            rw [this, cnT]
          · rw [if_neg h]
            have : (decide (gt (jQa x1) k = gt (jQa x2) k) || decide (gt (jQa x2) k = gt (jQa x0) k)) = false := by
              rw [Bool.or_eq_false_iff, decide_eq_false_iff_not, decide_eq_false_iff_not]; exact not_or.1 h
            rw [this, cnF, dT, cnT]
            rcases hno k with e | e | e
            · exact absurd (.inl e) h
            · exact absurd (.inr e) h
            · exact e
        rw [hcf, List.length_nil, show decide ((0 : Int) < ((0 : Nat) : Int)) = false from rfl, cnF]
        have hdx := jCx ob ol
        have hdy := jCx ob or_
        rw [qJe (by omega) (by omega) hN', bS]
        generalize hX : dfL x0 x1 = X at *
        generalize hO : ((dfL x0 x2).filter fun e => !decide (e ∈ X)) = O at *
        have hOs : O.Sublist (dfL x0 x2) := by rw [← hO]; exact List.filter_sublist
        have hOk : ∀ k, (∃ e ∈ O, e.Key = k) ↔ gt (jQa x0) k ≠ gt (jQa x2) k ∧ gt (jQa x1) k ≠ gt (jQa x2) k := by
          intro k; rw [← hO, ← hX]; exact jAf k
        have hXs : X.Sublist (dfL x0 x1) := by rw [hX]; exact List.Sublist.refl _
        have hXk : ∀ k, (∃ e ∈ X, e.Key = k) ↔ gt (jQa x0) k ≠ gt (jQa x1) k := by intro k; rw [← hX]; exact df_key k
        have hOb : ∀ e ∈ O, gt (jQa x1) e.Key = gt (jQa x0) e.Key := by
          intro e he
          obtain ⟨a, c⟩ := (hOk e.Key).1 ⟨e, he, rfl⟩
          rcases hno e.Key with h | h | h
          · exact absurd h c
          · exact absurd h.symm a
          · exact h
        -- left, then what right alone has changed
        have g1 : ∀ k, gt (jDs (jQa x1) O) k = mgS (jQa x0) (jQa x1) (jQa x2) k := by
          intro k
          rw [qJ9 hOs (jFs ol.so) k, hmg]
          by_cases h : gt (jQa x1) k = gt (jQa x2) k ∨ gt (jQa x2) k = gt (jQa x0) k
          · rw [if_pos h, if_neg]
            intro hx
            obtain ⟨a, c⟩ := (hOk k).1 hx
            rcases h with h | h
            · exact c h
            · exact a h.symm
          · rw [if_neg h, if_pos ((hOk k).2 ⟨fun e => h (.inr e.symm), fun e => h (.inl e)⟩)]
        have hkey : ∀ (s : jJq) k v, s = ⟨v, true⟩ → (s = gt (jQa x0) k ∨ s = gt (jQa x1) k ∨ s = gt (jQa x2) k) → k ∈ K := by
          intro s k v hs ho
          refine Classical.byContradiction fun hk => ?_
          obtain ⟨a, c, d⟩ := hKm k hk
          rw [a, c, d, or_self, or_self] at ho
          exact jN1 (hs.symm.trans ho)
        have hmk : ∀ k v, mgS (jQa x0) (jQa x1) (jQa x2) k = ⟨v, true⟩ → k ∈ K := by
          intro k v h
          refine hkey _ k v h ?_
          rw [hmg]
          split
          · exact .inr (.inl rfl)
          · exact .inr (.inr rfl)
        obtain ⟨a, ha1, ha2, ha3, ha4⟩ := jMl ol (qQk ob or_ hOs hOb) hKl (fun k v h => hmk k v (by rw [← g1]; exact h)) hN'
        have ham : a = m := jCf ha2 hm2 fun x => (ha3 x.Key x.Value).trans ((iff_of_eq (by rw [g1])).trans (hm3 x.Key x.Value).symm)
        rw [ha1, bS]
        dsimp only
        rw [jUh, dT rfl, Bool.not_true, Bool.not_false, cnT, ham, jNy (by rw [← ham]; omega) hN', bS, Bool.not_true, Bool.or_false, cnF]
        -- the base, then the same, then left's edits
        have g2 : ∀ k, gt (jDs (jQa x0) O) k = if ∃ e ∈ O, e.Key = k then gt (jQa x2) k else gt (jQa x0) k := qJ9 hOs (jFs ob.so)
        obtain ⟨c, hc1, hc2, hc3, hc4⟩ := jMl ob (qQk ob or_ hOs fun e _ => rfl) hKl (fun k v h => by
          refine hkey _ k v h ?_
          rw [g2]
          split
          · exact .inr (.inr rfl)
          · exact .inl rfl) hN'
        rw [hc1, bS]
        dsimp only
        rw [jUh, dT rfl, Bool.not_true, cnF]
        have gc : ∀ k, gt (jQa c) k = gt (jDs (jQa x0) O) k := by
          intro k
          have hz : gt (jDs (jQa x0) O) k = zS ∨ (gt (jDs (jQa x0) O) k).has = true := by
            rw [g2]; split
            · exact jF3 k
            · exact jF3 k
          rcases hz with h | h
          · rcases jF3 (l := c) k with h' | h'
            · rw [h, h']
            · have := (jPg hc2 (k := k) (v := (gt (jQa c) k).value)).2 (by rw [← h'])
              have := (hc3 _ _).1 this
              rw [h] at this
              exact absurd this.symm jN1
          · have : (⟨k, (gt (jDs (jQa x0) O) k).value⟩ : GSetting) ∈ c := (hc3 _ _).2 (by rw [← h])
            rw [(jPg hc2).1 this, ← h]
        have oc : OkS c := by
          refine ⟨hc4, fun x hx => ?_, fun x hx => ?_, hc2⟩
          · have := (hc3 x.Key x.Value).1 hx
            rw [g2] at this
            split at this
            · exact jAv or_ (by rw [this]; exact jN1)
            · exact jAv ob (by rw [this]; exact jN1)
          · have := (hc3 x.Key x.Value).1 hx
            rw [g2] at this
            split at this
            · have h := jR8 or_ x.Key; rw [this] at h; exact h
            · have h := jR8 ob x.Key; rw [this] at h; exact h
        have hXc : ∀ e ∈ X, gt (jQa c) e.Key = gt (jQa x0) e.Key := by
          intro e he
          have hne := (hXk e.Key).1 ⟨e, he, rfl⟩
          rw [gc, g2, if_neg]
          intro hx
          obtain ⟨p, q⟩ := (hOk e.Key).1 hx
          rcases hno e.Key with h | h | h
          · exact q h
          · exact p h.symm
          · exact hne h.symm
        have g3 : ∀ k, gt (jDs (jQa c) X) k = mgS (jQa x0) (jQa x1) (jQa x2) k := by
          intro k
          rw [qJ9 hXs (jFs hc2) k, hmg]
          by_cases hx : ∃ e ∈ X, e.Key = k
          · rw [if_pos hx]
            have hne := (hXk k).1 hx
            rcases hno k with h | h | h
            · rw [if_pos (.inl h)]
            · rw [if_pos (.inr h)]
            · exact absurd h.symm hne
          · rw [if_neg hx, gc, g2]
            have heq : gt (jQa x0) k = gt (jQa x1) k := Classical.byContradiction fun hc => hx ((hXk k).2 hc)
            by_cases h : gt (jQa x1) k = gt (jQa x2) k ∨ gt (jQa x2) k = gt (jQa x0) k
            · rw [if_pos h, if_neg, heq]
              intro ho
              obtain ⟨p, q⟩ := (hOk k).1 ho
              rcases h with h | h
              · exact q h
              · exact p h.symm
            · rw [if_neg h, if_pos ((hOk k).2 ⟨fun e => h (.inr e.symm), fun e => h (.inl e)⟩)]
        obtain ⟨d, hd1, hd2, hd3, hd4⟩ := jMl oc (qQk ob ol hXs hXc) hKl (fun k v h => hmk k v (by rw [← g3]; exact h)) hN'
        have hdm : d = m := jCf hd2 hm2 fun x => (hd3 x.Key x.Value).trans ((iff_of_eq (by rw [g3])).trans (hm3 x.Key x.Value).symm)
        rw [hd1, bS]
        dsimp only
        rw [jPm, dT rfl, cnT, hdm, jNy (by rw [← ham]; omega) hN', bS, Bool.true_and, cnT, hten]
        rfl
end Go.KB
