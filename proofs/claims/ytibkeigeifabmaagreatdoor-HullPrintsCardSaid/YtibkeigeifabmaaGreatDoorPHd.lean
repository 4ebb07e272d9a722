/- A line of the text of a ship, as the program reads it. No condition. -/
import Derived.Test.YtibkeigeifabmaaGreatDoorPHb
namespace Go.KB
set_option linter.unusedVariables false
set_option maxRecDepth 100000
theorem slcN {α : Type} {l : List α} {a b : Nat} (h : a ≤ b) (hb : b ≤ l.length) : slc l (a : Int) (b : Int) = some ((l.take b).drop a) := by
  unfold slc
  rw [dT (by omega), dT (by omega), dT (by omega)]; simp
theorem jN4 {α : Type} {l : List α} {a : Nat} (h : a ≤ l.length) : slc l (a : Int) (l.length : Int) = some (l.drop a) := by
  rw [slcN h (Nat.le_refl _), List.take_length]
theorem qU3 {N : Nat} {w : Str} : jWz N w ([45] : Str) = some (mag w) := by
  unfold jWz jV7 jWy
  rw [show List.length ([45] : Str) = 1 from rfl, jR2]
  cases w with
  | nil => rfl
  | cons c r =>
    have e1 : slc (c :: r) 0 ((1 : Nat) : Int) = some [c] := by
      have := slcN (l := c :: r) (a := 0) (b := 1) (by omega) (by simp)
      exact this
    have e2 : slc (c :: r) ((1 : Nat) : Int) ((c :: r).length : Int) = some r := jN4 (l := c :: r) (a := 1) (by simp)
    rw [dT (by simp only [List.length_cons]; omega), cnT, e1, bS, bS, Bool.true_and, jDl, e2]
    by_cases h : c = 45
    · rw [dT (by rw [h]), cnT, bS, bS]
      show some r = some (if c = 45 then r else c :: r)
      rw [if_pos h]
    · rw [dF (by simpa using h), cnF, bS]
      show some (c :: r) = some (if c = 45 then r else c :: r)
      rw [if_neg h]
theorem number_eq {N : Nat} {w : Str} (hw : w.length ≤ 100000) : ∃ v, jGq N w = some (v, (qZ9 w).isSome) ∧ ∀ n, qZ9 w = some n → v = n := by
  unfold jGq
  have e : jHd N w = some (match Lib.atoiAll w with | Lib.NumEnd.ok v => (v, false) | Lib.NumEnd.range => (Lib.atoiSat w, true) | _ => (0, true)) := by
    unfold jHd qKk
    rw [show Nat.ble w.length 281474976710656 = true by rw [Nat.ble_eq]; omega, cnT]; rfl
  rw [e, bS]
  have hp : qZ9 w = match Lib.atoiAll w with | .ok n => if Lib.itoa n = w ∧ (mag w).length ≤ 10 then some n else none | _ => none := rfl
  rcases ha : Lib.atoiAll w with v | _ | _
  rotate_left
  · rw [ha] at hp
    exact ⟨0, by rw [hp]; rfl, fun n h => by rw [hp] at h; cases h⟩
  · rw [ha] at hp
    exact ⟨Lib.atoiSat w, by rw [hp]; rfl, fun n h => by rw [hp] at h; cases h⟩
  · rw [ha] at hp
    have hin := qHb ha
    have e2 : jY5 N v = some (Lib.itoa v) := by
      unfold jY5 qZy inI
      rw [dT hin.1, dT hin.2]; rfl
    simp only [] at hp ⊢
    rw [Bool.not_false, cnT, qU3, bS, Bool.true_and, jL8, e2]
    by_cases h10 : (mag w).length ≤ 10
    · rw [dT (show ((mag w).length : Int) ≤ 10 by omega), cnT, bS, Bool.true_and, jDl]
      by_cases hi : Lib.itoa v = w
      · rw [if_pos ⟨hi, h10⟩] at hp
        exact ⟨v, by rw [hp, dT hi]; rfl, fun n h => by rw [hp] at h; exact Option.some.inj h⟩
      · rw [if_neg (fun h => hi h.1)] at hp
        exact ⟨v, by rw [hp, dF hi]; rfl, fun n h => by rw [hp] at h; cases h⟩
    · rw [if_neg (fun h => h10 h.2)] at hp
      exact ⟨v, by rw [hp, dF (show ¬ ((mag w).length : Int) ≤ 10 by omega)]; rfl, fun n h => by rw [hp] at h; cases h⟩
def jTx : List Str → Option (List Int)
  | [] => some []
  | w :: r => match qZ9 w with | none => none | some n => (jTx r).map (n :: ·)
theorem jSn {w : Str} {r : List Str} {n : Int} (h : qZ9 w = some n) : jTx (w :: r) = (jTx r).map (n :: ·) := by rw [jTx, h]
theorem jAx {w : Str} {r : List Str} (h : qZ9 w = none) : jTx (w :: r) = none := by rw [jTx, h]
theorem jSs : ∀ {l : List Int}, (∀ n ∈ l, big n) → jTx (l.map Lib.itoa) = some l := by
  intro l
  induction l with
  | nil => intro _; rfl
  | cons n l ih =>
    intro h
    rw [List.map_cons, jSn (qYm (h n List.mem_cons_self)), ih fun m hm => h m (List.mem_cons_of_mem _ hm)]; rfl
def qUj : jJp := ⟨[], [], []⟩
theorem qWw {N : Nat} {A : jJp × List Str × jJp} (hl : A.2.1.length ≤ 100000) (hw : ∀ w ∈ A.2.1, w.length ≤ 100000) : ∀ (k i : Nat) (z ln : jJp) (M : Nat), i + k = A.2.1.length → k < M → ln.numbers.length + k ≤ 1000000 →
    jQ1 (jZa N A) M (z, ln, (i : Int)) = some (match jTx (A.2.1.drop i) with | none => Sum.inr (qUj, false) | some l => Sum.inl (z, { ln with numbers := ln.numbers ++ l })) := by
  intro k
  induction k with
  | zero =>
    intro i z ln M hi hM _
    obtain ⟨M, rfl⟩ : ∃ m, M = m + 1 := ⟨M - 1, by omega⟩
    have e : jZa N A (z, ln, (i : Int)) = some (.inr (Sum.inl (z, ln))) := by
      unfold jZa
      simp only [jQe]
      rw [dF (by omega), cnF]
    rw [jQ1, e, List.drop_of_length_le (by omega)]
    simp [jTx]
  | succ k ih =>
    intro i z ln M hi hM ha
    obtain ⟨M, rfl⟩ : ∃ m, M = m + 1 := ⟨M - 1, by omega⟩
    have hlt : i < A.2.1.length := by omega
    obtain ⟨v, hv, hn⟩ := number_eq (N := N) (hw _ (List.getElem_mem hlt))
    rw [List.drop_eq_getElem_cons hlt]
    cases hp : qZ9 A.2.1[i] with
    | none =>
      rw [hp] at hv
      have e : jZa N A (z, ln, (i : Int)) = some (.inr (Sum.inr (qUj, false))) := by
        unfold jZa
        simp only [jQe]
        rw [dT (by omega), cnT, jKa hlt, bS, hv, bS]; rfl
      rw [jQ1, e, jAx hp]
    | some n =>
      rw [hp] at hv
      obtain rfl := hn n hp
      have e : jZa N A (z, ln, (i : Int)) = some (.inl (z, { ln with numbers := ln.numbers ++ [v] }, ((i + 1 : Nat) : Int))) := by
        unfold jZa
        simp only [jQe]
        rw [dT (by omega), cnT, jKa hlt, bS, hv, bS]
        simp only [Option.isSome_some, Bool.not_true, cnF]
        rw [jBa (by simp; unfold lim; omega), bS, jN9 (by omega)]
      rw [jQ1, e]
      simp only []
      rw [ih (i + 1) z _ M (by omega) (by omega) (by simp; omega), jSn hp]
      cases jTx (A.2.1.drop (i + 1)) with
      | none => rfl
      | some l => simp
/- what a line is -/
def jLh (x : Str) (named : Bool) : Option jJp :=
  match jRh 32 x with
  | [] => none
  | w :: r => bif named then (match r with | [] => none | nm :: q => if nm = [] then none else (jTx q).map fun l => (⟨w, nm, l⟩ : jJp)) else (jTx r).map fun l => (⟨w, [], l⟩ : jJp)
theorem jAg {c : UInt8} : ∀ (s : Str), (jRh c s).length ≤ s.length + 1 ∧ ∀ w ∈ jRh c s, w.length ≤ s.length := by
  intro s
  induction s with
  | nil => exact ⟨by simp [jRh], fun w hw => by simp [jRh] at hw; rw [hw]; simp⟩
  | cons b r ih =>
    rw [jRh]
    split
    · refine ⟨by simp; omega, fun w hw => ?_⟩
      rcases List.mem_cons.1 hw with rfl | hw
      · simp
      · have := ih.2 w hw; simp; omega
    · cases h : jRh c r with
      | nil => exact absurd h (qYe r)
      | cons x l =>
        rw [h] at ih
        refine ⟨by simp at ih ⊢; omega, fun w hw => ?_⟩
        rcases List.mem_cons.1 hw with rfl | hw
        · have := ih.2 x List.mem_cons_self; simp; omega
        · have := ih.2 w (List.mem_cons_of_mem _ hw); simp; omega
def rdO (o : Option jJp) : jJp × Bool := match o with | some l => (l, true) | none => (qUj, false)
theorem jAe {N : Nat} {z ln : jJp} {q : List Str} (hl : q.length ≤ 100000) (hw : ∀ w ∈ q, w.length ≤ 100000) (hN : 2 ^ 64 ≤ N) (hn : ln.numbers = []) :
    ((jQ1 (jZa N (z, q, ln)) N (z, ln, 0)).bind fun o19 => Sum.elim (fun l21 => some (l21.2, true)) (fun r22 => some (r22.1, r22.2)) o19) = some (rdO ((jTx q).map fun l => (⟨ln.word, ln.name, l⟩ : jJp))) := by
  have := qWw (N := N) (A := (z, q, ln)) hl hw q.length 0 z ln N (by simp) (by omega) (by rw [hn]; simp; omega)
  rw [List.drop_zero] at this
  rw [show jQ1 (jZa N (z, q, ln)) N (z, ln, 0) = _ from this, bS]
  show (Sum.elim _ _ (match jTx q with | none => Sum.inr (qUj, false) | some l => Sum.inl (z, { ln with numbers := ln.numbers ++ l })) : Option (jJp × Bool)) = _
  cases jTx q with
  | none => rfl
  | some l => rw [hn]; rfl
theorem qQr {N : Nat} {x : Str} {named : Bool} (hx : x.length ≤ 60000) (hN : 2 ^ 64 ≤ N) : jUj N x named = some (rdO (jLh x named)) := by
  obtain ⟨k1, k2⟩ := jAg (c := 32) x
  have es : jUc N x [32] = some (jRh 32 x) := by
    unfold jUc qXt
    rw [show Nat.blt x.length 4294967281 = true by rw [Nat.blt_eq]; omega, show Nat.ble 1 ([32] : Str).length = true by rfl, qZe]
    rfl
  unfold jUj
  rw [es, bS]
  unfold jLh
  cases h : jRh 32 x with
  | nil => exact absurd h (qYe x)
  | cons w r =>
    rw [h] at k1 k2
    have e0 : idx (w :: r) 0 = some w := rfl
    have e1 : slc (w :: r) 1 ((w :: r).length : Int) = some r := jN4 (l := w :: r) (a := 1) (by simp)
    rw [e0, bS, e1, bS]
    cases named with
    | false =>
      simp only [cnF, bS, Sum.elim_inl]
      exact jAe (by simp at k1; omega) (fun y hy => by have := k2 y (List.mem_cons_of_mem _ hy); omega) hN rfl
    | true =>
      simp only [cnT]
      cases r with
      | nil => rfl
      | cons nm q =>
        have f0 : idx (nm :: q) 0 = some nm := rfl
        have f1 : slc (nm :: q) 1 ((nm :: q).length : Int) = some q := jN4 (l := nm :: q) (a := 1) (by simp)
        rw [jU3, dF (show ¬ ((nm :: q).length : Int) = 0 by simp only [List.length_cons]; omega), Bool.not_false, cnT, f0, bS, Bool.false_or, jDl]
        show _ = some (rdO (if nm = [] then none else (jTx q).map fun l => (⟨w, nm, l⟩ : jJp)))
        by_cases hn : nm = []
        · rw [dT hn, cnT, bS, if_pos hn]; rfl
        · rw [dF hn, cnF, bS, f1, bS, bS, Sum.elim_inl, if_neg hn]
          exact jAe (by simp at k1; omega) (fun y hy => by have := k2 y (List.mem_cons_of_mem _ (List.mem_cons_of_mem _ hy)); omega) hN rfl
/- the line of a load -/
def zLoad : jJc := ⟨[], 0, 0, 0, 0⟩
def jTy (x w : Str) : Option jJc := match jLh x true with
  | some l => if l.word = w then (match l.numbers with | [a, b, c, d] => some ⟨l.name, a, b, c, d⟩ | _ => none) else none
  | none => none
theorem qY5 {N : Nat} {x w : Str} (hx : x.length ≤ 60000) (hN : 2 ^ 64 ≤ N) : jGm N x w = some (match jTy x w with | some y => (y, true) | none => (zLoad, false)) := by
  unfold jGm jTy
  rw [qQr hx hN, bS]
  cases jLh x true with
  | none => rfl
  | some l =>
    obtain ⟨lw, nm, ns⟩ := l
    simp only [rdO, Bool.not_true, Bool.false_or]
    rw [jRb, jYp]
    by_cases hw : lw = w
    · rw [dT hw, Bool.not_true, Bool.false_or, if_pos hw]
      match ns with
      | [] => rfl
      | [a] => rfl
      | [a, b] => rfl
      | [a, b, c] => rfl
      | [a, b, c, d] => rfl
      | a :: b :: c :: d :: e :: r =>
        rw [dF (show ¬ ((a :: b :: c :: d :: e :: r).length : Int) = 4 by simp only [List.length_cons]; omega)]; rfl
    · rw [dF hw, if_neg hw]; rfl
/- the line of a station -/
def dei : List Int → List Int × List Int
  | [] => ([], [])
  | [a] => ([a], [])
  | a :: b :: r => (a :: (dei r).1, b :: (dei r).2)
theorem qHa : ∀ {a b : List Int}, b.length ≤ a.length → a.length ≤ b.length + 1 → dei (ilv a b) = (a, b) := by
  intro a
  induction a with
  | nil => intro b h _; have : b = [] := List.length_eq_zero_iff.1 (by simpa using h); subst this; rfl
  | cons x a ih =>
    intro b h h2
    cases b with
    | nil =>
      have : a = [] := List.length_eq_zero_iff.1 (by simpa using h2)
      subst this; rfl
    | cons y b => rw [ilv, dei, ih (by simpa using h) (by simpa using h2)]
theorem qK7 {N : Nat} {l : List Int} (hl : l.length ≤ 100000) : ∀ (k i : Nat) (X W : Int) (L Hh : List Int) (M : Nat), 2 * i + k = l.length → k < M → L.length + k ≤ 1000000 → Hh.length + k ≤ 1000000 →
    jQ1 (jXn N l) M ((⟨X, W, L, Hh⟩ : jJv), ((2 * i : Nat) : Int)) = some ⟨X, W, L ++ (dei (l.drop (2 * i))).1, Hh ++ (dei (l.drop (2 * i))).2⟩ := by
  intro k
  induction k using Nat.strongRecOn with
  | _ k ih =>
    intro i X W L Hh M hi hM hL hH
    obtain ⟨M, rfl⟩ : ∃ m, M = m + 1 := ⟨M - 1, by omega⟩
    have r0 : qJe ((2 * i : Nat) : Int) 2 = some 0 := (remN (a := 2 * i) (b := 2) (by decide)).trans (congrArg some (by omega))
    have r1 : qJe ((2 * i + 1 : Nat) : Int) 2 = some 1 := (remN (a := 2 * i + 1) (b := 2) (by decide)).trans (congrArg some (by omega))
    by_cases h0 : k = 0
    · have e : jXn N l ((⟨X, W, L, Hh⟩ : jJv), ((2 * i : Nat) : Int)) = some (.inr ⟨X, W, L, Hh⟩) := by
        unfold jXn
        simp only [jQe]
        rw [dF (by omega), cnF]
      rw [jQ1, e, List.drop_of_length_le (by omega)]
      simp [dei]
    · have hlt : 2 * i < l.length := by omega
      have e : jXn N l ((⟨X, W, L, Hh⟩ : jJv), ((2 * i : Nat) : Int)) = some (.inl (⟨X, W, L ++ [l[2 * i]], Hh⟩, ((2 * i + 1 : Nat) : Int))) := by
        unfold jXn
        simp only [jQe, jU3]
        rw [dT (by omega), cnT, jKa hlt, bS, r0, bS, dT rfl, cnT, jBa (by simp; unfold lim; omega), bS, jN9 (by omega)]
      rw [jQ1, e]
      simp only []
      by_cases h1 : k = 1
      · obtain ⟨M, rfl⟩ : ∃ m, M = m + 1 := ⟨M - 1, by omega⟩
        have e2 : jXn N l ((⟨X, W, L ++ [l[2 * i]], Hh⟩ : jJv), ((2 * i + 1 : Nat) : Int)) = some (.inr ⟨X, W, L ++ [l[2 * i]], Hh⟩) := by
          unfold jXn
          simp only [jQe]
          rw [dF (by omega), cnF]
        rw [jQ1, e2, List.drop_eq_getElem_cons hlt, List.drop_of_length_le (show l.length ≤ 2 * i + 1 by omega)]
        simp [dei]
      · obtain ⟨M, rfl⟩ : ∃ m, M = m + 1 := ⟨M - 1, by omega⟩
        have hlt2 : 2 * i + 1 < l.length := by omega
        have e2 : jXn N l ((⟨X, W, L ++ [l[2 * i]], Hh⟩ : jJv), ((2 * i + 1 : Nat) : Int)) = some (.inl (⟨X, W, L ++ [l[2 * i]], Hh ++ [l[2 * i + 1]]⟩, ((2 * (i + 1) : Nat) : Int))) := by
          unfold jXn
          simp only [jQe, jU3]
          rw [dT (by omega), cnT, jKa hlt2, bS, r1, bS, dF (by decide), cnF, jBa (by simp; unfold lim; omega), bS, jN9 (by omega)]
          rfl
        rw [jQ1, e2]
        simp only []
        rw [ih (k - 2) (by omega) (i + 1) X W _ _ M (by omega) (by omega) (by simp; omega) (by simp; omega), List.drop_eq_getElem_cons hlt, List.drop_eq_getElem_cons hlt2, dei, show 2 * i + 1 + 1 = 2 * (i + 1) by omega]
        simp
def zSta : jJv := ⟨0, 0, [], []⟩
def staN (l : List Int) : Option jJv := match l with
  | a :: b :: c :: r => if l.length % 2 = 1 then some ⟨a, b, (dei (c :: r)).1, (dei (c :: r)).2⟩ else none
  | _ => none
def staS (x : Str) : Option jJv := match jLh x false with
  | some l => if l.word = qQu then staN l.numbers else none
  | none => none
theorem qX5 : ∀ {l : List Str} {r : List Int}, jTx l = some r → r.length = l.length := by
  intro l
  induction l with
  | nil => intro r h; rw [jTx] at h; cases h; rfl
  | cons w l ih =>
    intro r h
    cases hp : qZ9 w with
    | none => rw [jAx hp] at h; cases h
    | some n =>
      rw [jSn hp] at h
      cases hq : jTx l with
      | none => rw [hq] at h; cases h
      | some q => rw [hq] at h; cases h; simp [ih hq]
theorem qZ8 {x : Str} {b : Bool} {l : jJp} (h : jLh x b = some l) : l.numbers.length ≤ x.length + 1 := by
  have k := (jAg (c := 32) x).1
  unfold jLh at h
  cases hs : jRh 32 x with
  | nil => rw [hs] at h; cases h
  | cons w r =>
    rw [hs] at h k
    simp only [] at h
    cases b with
    | false =>
      rw [cnF] at h
      cases hq : jTx r with
      | none => rw [hq] at h; cases h
      | some q => rw [hq] at h; cases h; have := qX5 hq; simp at k ⊢; omega
    | true =>
      rw [cnT] at h
      cases r with
      | nil => cases h
      | cons nm q =>
        simp only [] at h
        split at h
        · cases h
        · cases hq : jTx q with
          | none => rw [hq] at h; cases h
          | some q => rw [hq] at h; cases h; have := qX5 hq; simp at k ⊢; omega
theorem qZ2 {N : Nat} {x : Str} (hx : x.length ≤ 60000) (hN : 2 ^ 64 ≤ N) : jKe N x = some (match staS x with | some y => (y, true) | none => (zSta, false)) := by
  unfold jKe staS
  rw [qQr hx hN, bS]
  cases hr : jLh x false with
  | none => rfl
  | some l =>
    have hnl := qZ8 hr
    obtain ⟨lw, nm, ns⟩ := l
    simp only [rdO, Bool.not_true, Bool.false_or] at hnl ⊢
    rw [jRb, show ([115, 116, 97, 116, 105, 111, 110] : Str) = qQu from rfl]
    by_cases hw : lw = qQu
    · have hrem : qJe (ns.length : Int) 2 = some ((ns.length % 2 : Nat) : Int) := remN (b := 2) (by decide)
      rw [dT hw, Bool.not_true, Bool.not_false, cnT, if_pos hw, hrem, bS, jU3, jQe, Bool.false_or]
      match ns, hnl with
      | [], _ => rfl
      | [a], _ => rfl
      | [a, b], _ => rw [dT (show ((([a, b] : List Int).length % 2 : Nat) : Int) = 0 by simp), Bool.true_or, cnT]; rfl
      | a :: b :: c :: r, hnl =>
        have hlen : (a :: b :: c :: r).length = r.length + 3 := rfl
        rw [show staN (a :: b :: c :: r) = if (a :: b :: c :: r).length % 2 = 1 then some ⟨a, b, (dei (c :: r)).1, (dei (c :: r)).2⟩ else none from rfl]
        by_cases h2 : (a :: b :: c :: r).length % 2 = 1
        · rw [if_pos h2, dF (show ¬ (((a :: b :: c :: r).length % 2 : Nat) : Int) = 0 by omega), dF (show ¬ ((a :: b :: c :: r).length : Int) < 3 by omega), Bool.or_self, cnF]
          have e0 : idx (a :: b :: c :: r) 0 = some a := rfl
          have e1 : idx (a :: b :: c :: r) 1 = some b := rfl
          have e2 : slc (a :: b :: c :: r) 2 ((a :: b :: c :: r).length : Int) = some (c :: r) := jN4 (l := a :: b :: c :: r) (a := 2) (by simp)
          rw [e0, bS, e1, bS, e2, bS]
          have hd := qK7 (N := N) (l := c :: r) (by simp at hnl ⊢; omega) (c :: r).length 0 a b [] [] N (by simp) (by simp at hnl ⊢; omega) (by simp at hnl ⊢; omega) (by simp at hnl ⊢; omega)
          rw [Nat.mul_zero, List.drop_zero, List.nil_append, List.nil_append] at hd
          rw [show jQ1 (jXn N (c :: r)) N ((⟨a, b, [], []⟩ : jJv), 0) = _ from hd, bS]
        · rw [if_neg h2, dT (show (((a :: b :: c :: r).length % 2 : Nat) : Int) = 0 by omega), Bool.true_or, cnT]; rfl
    · rw [dF hw, if_neg hw]; rfl
/- a line behind others -/
def qVj (g : GShip) (x : Str) (st : Int) : Option (GShip × Int) :=
  if st = 0 then (match jLh x true with
    | some l => if l.word = jRu then (match l.numbers with | [n] => some ({ g with Name := l.name, Length := n }, 1) | _ => none) else none
    | none => none)
  else if st = 1 then (match jTy x jHa with
    | some y => some ({ g with Light := y }, 2)
    | none => (staS x).map fun t => ({ g with Stations := g.Stations ++ [t] }, 1))
  else (jTy x jMh).map fun y => ({ g with Items := g.Items ++ [y] }, 2)
theorem add_eq {N : Nat} {g : GShip} {x : Str} {st : Int} (hx : x.length ≤ 60000) (h1 : g.Stations.length ≤ 1000000) (h2 : g.Items.length ≤ 1000000) (hN : 2 ^ 64 ≤ N) :
    (∀ r, qVj g x st = some r → jUu N g x st = some (r.1, r.2, true)) ∧ (qVj g x st = none → ∃ g' k, jUu N g x st = some (g', k, false)) := by
  unfold jUu qVj
  rw [jU3, jU3]
  by_cases s0 : st = 0
  · rw [dT s0, cnT, if_pos s0, qQr hx hN, bS]
    cases jLh x true with
    | none => exact ⟨fun r h => (by cases h), fun _ => ⟨g, 0, rfl⟩⟩
    | some l =>
      obtain ⟨lw, nm, ns⟩ := l
      simp only [rdO, Bool.not_true, Bool.false_or]
      rw [jRb, jYp, show ([115, 104, 105, 112] : Str) = jRu from rfl]
      by_cases hw : lw = jRu
      · rw [dT hw, Bool.not_true, Bool.false_or, if_pos hw]
        match ns with
        | [] => exact ⟨fun r h => (by cases h), fun _ => ⟨g, 0, rfl⟩⟩
        | [n] => exact ⟨fun r h => by cases h; rfl, fun h => by cases h⟩
        | a :: b :: r =>
          rw [dF (show ¬ ((a :: b :: r).length : Int) = 1 by simp only [List.length_cons]; omega)]
          exact ⟨fun r h => (by cases h), fun _ => ⟨g, 0, rfl⟩⟩
      · rw [dF hw, if_neg hw]
        exact ⟨fun r h => (by cases h), fun _ => ⟨g, 0, rfl⟩⟩
  · rw [dF s0, cnF, if_neg s0]
    by_cases s1 : st = 1
    · rw [dT s1, cnT, if_pos s1, show ([108, 105, 103, 104, 116] : Str) = jHa from rfl, qY5 hx hN, bS]
      cases jTy x jHa with
      | some y => exact ⟨fun r h => by cases h; rfl, fun h => by cases h⟩
      | none =>
        simp only [cnF]
        rw [qZ2 hx hN, bS, jBa (by simp; unfold lim; omega), bS]
        cases staS x with
        | none => exact ⟨fun r h => (by cases h), fun _ => ⟨_, _, rfl⟩⟩
        | some t => exact ⟨fun r h => by cases h; rfl, fun h => by cases h⟩
    · rw [dF s1, cnF, if_neg s1, show ([105, 116, 101, 109] : Str) = jMh from rfl, qY5 hx hN, bS, jBa (by simp; unfold lim; omega), bS]
      cases jTy x jMh with
      | none => exact ⟨fun r h => (by cases h), fun _ => ⟨_, _, rfl⟩⟩
      | some y => exact ⟨fun r h => by cases h; rfl, fun h => by cases h⟩
end Go.KB
