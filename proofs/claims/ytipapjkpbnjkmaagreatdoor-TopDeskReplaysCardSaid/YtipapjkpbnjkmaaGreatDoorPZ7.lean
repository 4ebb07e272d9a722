/- The desk's answers: errors, numbers, rows. The desk's answers on accounts, balances, traces, and whether an entry is live. The reference's numerals; numbers that are read; traces. What the desk does with a line. No condition. -/
import Derived.Test.YtipapjkpbnjkmaaGreatDoorPZ5
import Derived.Test.YtipapjkpbnjkmaaGreatDoorPZ6
namespace Go.KB
set_option linter.unusedVariables false
def Al {α : Type} (P : α → Prop) (m : Option α) : Prop := ∀ r, m = some r → P r
theorem Al.some {α : Type} {P : α → Prop} {x : α} (h : P x) : Al P (some x) := fun r e => by cases e; exact h
theorem Al.bind {α β : Type} {P : β → Prop} {m : Option α} {k : α → Option β} (h : ∀ x, m = Option.some x → Al P (k x)) : Al P (m.bind k) := fun r e => by
 obtain ⟨x, h1, h2⟩ := jJ2 e
 exact h x h1 r h2
theorem Al.ite {α : Type} {P : α → Prop} {b : Bool} {x y : Option α} (h1 : Al P x) (h2 : Al P y) : Al P (bif b then x else y) := by
 cases b
 ·exact h2
 ·exact h1
theorem Al.get {α : Type} {P : α → Prop} {m : Option α} {x : α} (h : Al P m) (e : m = Option.some x) : Al P (Option.some x) := Al.some (h x e)
theorem Al.map {α β : Type} {P : α → Prop} {Q : β → Prop} {m : Option α} {x : α} {y : β} (h : Al P m) (e : m = Option.some x) (hq : P x → Q y) : Al Q (Option.some y) := Al.some (hq (h x e))
def Er (e : Int) : Prop := 0 ≤ e ∧ e ≤ 100
theorem Er.of {e : Int} (h : decide (0 ≤ e ∧ e ≤ 100) = true) : Er e := by unfold Er; exact of_decide_eq_true h
section
variable {N : Nat} {g0 : jJj} {o : List (Str × Int)} {it : List (jJz × Int)} {gn : List (Int × Bool)} {m : List jJu}
theorem qJq {n : Int} : Al Er (jQ2 N g0 o it gn n) := by
 unfold jQ2
 repeat' first
  | with_reducible exact Al.some (Er.of (by decide))
  | with_reducible apply Al.ite
  | with_reducible refine Al.bind fun _ _ => ?_
theorem qYl {n : Int} {ks : List Int} : Al Er (jXu N g0 o it gn n ks) := by
 unfold jXu
 repeat' first
  | with_reducible exact Al.some (Er.of (by decide))
  | with_reducible exact Al.get qJq (by assumption)
  | with_reducible apply Al.ite
  | with_reducible refine Al.bind fun _ _ => ?_
theorem qJc {p : jJu} : Al Er (jX9 N g0 o it gn p) := by
 unfold jX9
 repeat' first
  | with_reducible exact Al.some (Er.of (by decide))
  | with_reducible exact Al.get qJq (by assumption)
  | with_reducible exact Al.get qYl (by assumption)
  | with_reducible apply Al.ite
  | with_reducible refine Al.bind fun _ _ => ?_
theorem jCn {e : Nat → Int} (h : ∀ j, Er (e j)) : ∀ (k i : Nat), Er (jVe e k i) := by
 intro k
 induction k with
 | zero => intro i; exact ⟨Int.le_refl 0, show (0 : Int) ≤ 100 by decide⟩
 | succ k ih =>
  intro i
  unfold jVe
  split
  ·exact ih _
  ·exact h i
theorem chk_er {p : jJu} : Er (jF2 p) := by
  unfold jF2
  split
  · refine jCn (fun j => ?_) _ _
    unfold jPz
    split
    · split <;> exact ⟨by decide, by decide⟩
    · split <;> exact ⟨by decide, by decide⟩
    · exact ⟨by decide, by decide⟩
  · exact ⟨by decide, by decide⟩
theorem qKh (hN : 13 ≤ N) {p : jJu} : Al (fun r => Er r.2.2.2.2.2) (jXa N g0 o it gn p) := by
 unfold jXa
 rw [jR8 hN, bS]
 refine Al.ite (Al.some chk_er) ?_
 repeat' first
  | with_reducible exact Al.some (Er.of (by decide))
  | with_reducible exact Al.map qJc (by assumption) (fun h => h)
  | with_reducible apply Al.ite
  | with_reducible refine Al.bind fun _ _ => ?_
 all_goals exact Al.some (by first | exact Er.of (e := 0) (by decide) | exact Er.of (e := 8) (by decide) | exact Er.of (e := 10) (by decide))
theorem qU6 {n : Int} : Er (stE m n) := by
 unfold stE
 split
 ·exact ⟨by decide, by decide⟩
 ·split <;> exact ⟨by decide, by decide⟩
end
def jLn (n : Int) : Prop := -100000000000000000 < n ∧ n < 100000000000000000
theorem jWa {n : Int} (h : jLn n) : qQj n = some (Lib.itoa n) ∧ (Lib.itoa n).length ≤ 18 := by
  obtain ⟨h1, h2⟩ := h
  refine ⟨jM5 (by omega), ?_⟩
  by_cases hn : n < 0
  · rw [jBt hn, List.length_cons]
    have := jCs 16 n.natAbs (by omega)
    omega
  · rw [jB7 (by omega)]
    have := jCs 16 n.toNat (by omega)
    omega
theorem qZu {e : Int} (h : Er e) : jLn e := ⟨by have := h.1; omega, by have := h.2; omega⟩
theorem jMn {N : Nat} {n : Int} (h : jLn n) : jQ0 N n = some (Lib.itoa n) := (jWa h).1
def ansT (s : Str) (e : Int) : Str := if e = 0 then s else ([101, 114, 114, 111, 114, 32] : Str) ++ Lib.itoa e
theorem jKt {N : Nat} {s : Str} {e : Int} (h : Er e) : jZe N s e = some (ansT s e) := by
 unfold jZe ansT
 rw [jYl]
 by_cases hz : e = 0
 ·rw [dT hz, if_pos hz]; rfl
 ·rw [dF hz, if_neg hz]
  have := (jWa (qZu h)).2
  simp only [Bool.not_false, cnT]
  rw [jMn (qZu h), bS, jYm (by simp only [List.length_cons, List.length_nil]; omega)]; rfl
theorem qJb {sep : Str} {K : Nat} : ∀ (r : List Str), (∀ s ∈ r, s.length ≤ K) → (Lib.joinTail sep r).length ≤ (K + sep.length) * r.length := by
 intro r
 induction r with
 | nil => intro _; simp [Lib.joinTail]
 | cons y r ih =>
  intro h
  have h1 := h y List.mem_cons_self
  have h2 := ih fun s hs => h s (List.mem_cons_of_mem _ hs)
  have h3 : Lib.joinTail sep (y :: r) = sep ++ (y ++ Lib.joinTail sep r) := by simp [Lib.joinTail]
  rw [h3, List.length_append, List.length_append, List.length_cons, Nat.mul_succ]
  omega
theorem jSx {N : Nat} {xs : List Str} {sep : Str} (h : ∀ s ∈ xs, s.length ≤ 1000) (hl : xs.length ≤ 1000) (hs : sep.length ≤ 10) : jZx N xs sep = some (Lib.join xs sep) ∧ (Lib.join xs sep).length ≤ 2020 * 1000 := by
 have h0 : (Lib.join xs sep).length ≤ 1010 * xs.length := by
  cases xs with
  | nil => exact Nat.zero_le _
  | cons x r =>
   rw [Lib.join_cons x r sep, List.length_append]
   have h1 := h x List.mem_cons_self
   have h2 := qJb (sep := sep) (K := 1000) r fun s hs => h s (List.mem_cons_of_mem _ hs)
   have h3 : (1000 + sep.length) * r.length ≤ 1010 * r.length := Nat.mul_le_mul_right _ (by omega)
   rw [List.length_cons]
   omega
 have h1 : 1010 * xs.length ≤ 1010 * 1000 := Nat.mul_le_mul_left _ hl
 refine ⟨?_, by omega⟩
 unfold jZx qJ2
 rw [show Nat.ble (Lib.join xs sep).length 140737488355328 = true by rw [Nat.ble_eq]; omega, show Nat.ble xs.length 140737488355328 = true by rw [Nat.ble_eq]; omega]; rfl
theorem jR4 {N : Nat} {f : List Str × Int → Option ((List Str × Int) ⊕ List Str)} {l : List Int} {p : List Str}
  (hf : ∀ s, f s = bif (jJb .lss s.2 (List.length l : Int)) then ((idx l s.2).bind fun v2 => (jQ0 N v2).bind fun v3 => (app s.1 [v3]).bind fun v4 => some (.inl (v4, (IntKind.i64.wrap (s.2 + 1))))) else (some (.inr s.1)))
  (hl : l.length ≤ 1000) (hp : p.length ≤ 1000) (hb : ∀ n ∈ l, jLn n) (hN : 2000 ≤ N) : jZw f N (p, 0) = some (p ++ l.map Lib.itoa) := by
 have := jU3 (f := f) l.length (fun i => p ++ (l.take i).map Lib.itoa) (p ++ l.map Lib.itoa) (fun i hi => by
  rw [hf]
  dsimp only
  rw [jQa, dT (by omega), cnT, jKl hi, bS, jMn (hb _ (List.getElem_mem hi)), bS, jDy (by simp only [List.length_append, List.length_map, List.length_take, List.length_cons, List.length_nil]; omega), bS, jP8 (by omega), List.take_add_one, List.getElem?_eq_getElem hi, List.map_append, List.append_assoc]; rfl) (by
  rw [hf]
  dsimp only
  rw [jQa, dF (by omega), cnF, List.take_length]) N (by omega)
 rw [List.take_zero, List.map_nil, List.append_nil] at this
 exact this
def rowT (p : List Str) (l : List Int) : Str := Lib.join (p ++ l.map Lib.itoa) [32]
theorem qXm {N : Nat} {p : List Str} {l : List Int} (hl : l.length ≤ 400) (hp : p.length ≤ 400) (hps : ∀ s ∈ p, s.length ≤ 1000) (hb : ∀ n ∈ l, jLn n) : jZx N (p ++ l.map Lib.itoa) ([32] : Str) = some (rowT p l) ∧ (rowT p l).length ≤ 2020 * 1000 := by
 refine jSx (fun s hs => ?_) (by simp only [List.length_append, List.length_map]; omega) (by simp)
 rcases List.mem_append.1 hs with hs | hs
 ·exact hps s hs
 ·obtain ⟨n, hn, rfl⟩ := List.mem_map.1 hs
  have := (jWa (hb n hn)).2
  omega
theorem row_n {N : Nat} {l : List Int} (hl : l.length ≤ 400) (hb : ∀ n ∈ l, jLn n) (hN : 2000 ≤ N) : jY4 N l = some (rowT [] l) := by
 unfold jY4
 rw [jR4 (N := N) (f := jYt N l) (l := l) (p := []) (fun s => rfl) (by omega) (by simp) hb hN]
 simp only [bS, Sum.elim_inr]
 rw [(qXm hl (by simp) (fun s hs => by cases hs) hb).1]; rfl
theorem row_t {N : Nat} {s : Str} {l : List Int} (hs : s.length ≤ 1000) (hl : l.length ≤ 400) (hb : ∀ n ∈ l, jLn n) (hN : 2000 ≤ N) : jY1 N [s] l = some (rowT [s] l) := by
 unfold jY1
 rw [jR4 (N := N) (f := jYs N l) (l := l) (p := [s]) (fun s => rfl) (by omega) (by simp) hb hN]
 simp only [bS, Sum.elim_inr]
 rw [(qXm hl (by simp) (fun t ht => by rw [List.mem_singleton] at ht; rw [ht]; exact hs) hb).1]; rfl
theorem qX9 {N : Nat} {l : List Int} (hl : l.length ≤ 400) (hb : ∀ n ∈ l, jLn n) (hN : 2000 ≤ N) : ∃ s, jUv N l = some s ∧ s.length ≤ 10000 := by
  unfold jUv
  rw [jV1]
  by_cases h0 : (l.length : Int) = 0
  · rw [dT h0]; exact ⟨_, rfl, by simp⟩
  · rw [dF h0, cnF, jR4 (N := N) (f := jUl N l) (l := l) (p := []) (fun s => rfl) (by omega) (by simp) hb hN]
    simp only [bS, Sum.elim_inr, List.nil_append]
    have hk : ∀ s ∈ l.map Lib.itoa, s.length ≤ 18 := fun s hs => by
      obtain ⟨n, hn, rfl⟩ := List.mem_map.1 hs
      exact (jWa (hb n hn)).2
    obtain ⟨h1, _⟩ := jSx (N := N) (xs := l.map Lib.itoa) (sep := ([44] : Str)) (fun s hs => by have := hk s hs; omega) (by rw [List.length_map]; omega) (by simp)
    rw [h1]
    refine ⟨_, rfl, ?_⟩
    cases hx : l.map Lib.itoa with
    | nil => exact Nat.zero_le _
    | cons x r =>
      rw [hx] at hk
      rw [Lib.join_cons x r _, List.length_append]
      have h2 := hk x List.mem_cons_self
      have h3 := qJb (sep := ([44] : Str)) (K := 18) r fun s hs => hk s (List.mem_cons_of_mem _ hs)
      have h4 : r.length + 1 = l.length := by have := congrArg List.length hx; rw [List.length_map, List.length_cons] at this; exact this.symm
      simp only [List.length_cons, List.length_nil] at h3
      omega
end Go.KB
namespace Go.KB
set_option linter.unusedVariables false
theorem jC1 : ∀ {l : List Int}, (∀ y ∈ l, -1000000000 ≤ y ∧ y ≤ 1000000000) → -1000000000 * (l.length : Int) ≤ l.sum ∧ l.sum ≤ 1000000000 * (l.length : Int) := by
 intro l
 induction l with
 | nil => intro _; simp
 | cons y l ih =>
  intro h
  have h1 := h y List.mem_cons_self
  have h2 := ih fun z hz => h z (List.mem_cons_of_mem _ hz)
  rw [List.sum_cons, List.length_cons]
  omega
theorem jLd {s : Str} (h : jUf s = true) : s ≠ [] := fun e => by rw [e] at h; cases h
theorem jLc {s : Str} (h : jUf s = true) : s.length ≤ 12 := (nm_ok h).1
theorem qWv {s : Str} {l : List Int} (hs : s.length ≤ 100) (hl : l.length ≤ 6) (hb : ∀ n ∈ l, jLn n) : (rowT [s] l).length ≤ 300 := by
 unfold rowT
 rw [List.singleton_append, Lib.join_cons, List.length_append]
 have := qJb (sep := ([32] : Str)) (K := 18) (l.map Lib.itoa) fun t ht => by
  obtain ⟨n, hn, rfl⟩ := List.mem_map.1 ht
  exact (jWa (hb n hn)).2
 rw [List.length_map] at this
 simp only [List.length_cons, List.length_nil] at this
 omega
section
variable {N : Nat} {g0 : jJj} {o : List (Str × Int)} {it : List (jJz × Int)} {gn : List (Int × Bool)} {m : List jJu}
theorem qJz : (jQy m).length ≤ m.length := by
 unfold jQy jWz
 rw [List.length_map]
 exact Nat.le_trans (List.length_filter_le ..) (by simp)
theorem qUv (v : Vl Nm m) {x : Str} : -1000000000 * (m.length : Int) ≤ jFf (jQy m) x ∧ jFf (jQy m) x ≤ 1000000000 * (m.length : Int) := by
 unfold jFf
 have hl := qJz (m := m)
 have h := jC1 (l := ((jQy m).filter fun e => decide (e.2.Op = 7) && decide (e.2.Order = x)).map (·.2.Amount)) (fun y hy => by
  obtain ⟨e, he, rfl⟩ := List.mem_map.1 hy
  obtain ⟨h1, h2, _, h3⟩ := jUh.1 (List.mem_filter.1 he).1
  show -1000000000 ≤ e.2.Amount ∧ e.2.Amount ≤ 1000000000
  rw [h3]; exact qZa (v.at h1 h2))
 rw [List.length_map] at h
 have h4 : ((jQy m).filter fun e => decide (e.2.Op = 7) && decide (e.2.Order = x)).length ≤ m.length := Nat.le_trans (List.length_filter_le ..) hl
 omega
def jPx (b : jJq) : List Int := [b.Estimate, b.Growth, b.Charged, b.Billed, b.Paid, b.Due]
theorem qZt (B : jGb g0 o it gn m) (v : Vl Nm m) (hl : m.length ≤ 400) {x : Str} (hx0 : x ≠ []) : ∀ n ∈ jPx (jTa (jL0 (jQy m) x ((m.length : Int) + 1)) (jFf (jQy m) x)), jLn n := by
 obtain ⟨_, h2, h3⟩ := jB5 (N := 2000) B v hl (Nat.le_refl _) hx0
 have hp := qUv (m := m) v (x := x)
 unfold jPx jTa
 generalize jL0 (jQy m) x ((m.length : Int) + 1) = A at *
 have hK : (0 : Int) ≤ (m.length : Int) * 1000000000 := by omega
 have bE := jS1 (l := A) (F := (·.Estimate)) (K := 1000000000) (by omega) (fun a ha => (h3 a ha).es) A.length
 have bG := jS1 (l := A) (F := (·.Growth)) hK (fun a ha => (h3 a ha).gr) A.length
 have bC := jS1 (l := A) (F := (·.Charged)) hK (fun a ha => (h3 a ha).ch) A.length
 have bB := jS1 (l := A) (F := (·.Billed)) hK (fun a ha => (h3 a ha).bi) A.length
 rw [List.take_length] at bE bG bC bB
 have hbig : (m.length : Int) * 1000000000 * (A.length : Int) ≤ 400 * 1000000000 * 400 := by
  have a1 : (m.length : Int) * 1000000000 ≤ 400 * 1000000000 := by omega
  have a2 : (A.length : Int) ≤ 400 := by omega
  exact Int.mul_le_mul a1 a2 (by omega) (by omega)
 have hneg : -((m.length : Int) * 1000000000) * (A.length : Int) = -((m.length : Int) * 1000000000 * (A.length : Int)) := Int.neg_mul ..
 generalize smI (A.map (·.Estimate)) = sE at *
 generalize smI (A.map (·.Growth)) = sG at *
 generalize smI (A.map (·.Charged)) = sC at *
 generalize smI (A.map (·.Billed)) = sB at *
 generalize (m.length : Int) * 1000000000 * (A.length : Int) = z at *
 intro n hn
 simp only [List.mem_cons, List.not_mem_nil, or_false] at hn
 unfold jLn
 rcases hn with rfl | rfl | rfl | rfl | rfl | rfl <;> omega
def qKb (m : List jJu) (x : Str) : Str := if stE m (jG6 m x) = 0 then rowT [] (jPx (jTa (jL0 (jQy m) x ((m.length : Int) + 1)) (jFf (jQy m) x))) else ([101, 114, 114, 111, 114, 32] : Str) ++ Lib.itoa (stE m (jG6 m x))
theorem jN5 (B : jGb g0 o it gn m) (v : Vl Nm m) (hl : m.length ≤ 400) (hN : 2000 ≤ N) {x : Str} (hx0 : x ≠ []) : jVc N g0 o it gn x = some (qKb m x) := by
 unfold jVc qKb
 rw [jPd B v hl hN hx0, bS]
 by_cases hz : stE m (jG6 m x) = 0
 ·have hb := qZt B v hl hx0
  rw [if_pos hz, if_pos hz]
  have := row_n (N := N) (l := jPx (jTa (jL0 (jQy m) x ((m.length : Int) + 1)) (jFf (jQy m) x))) (by simp [jPx]) hb hN
  unfold jPx at this
  rw [this, bS, jKt (Er.of (e := 0) (by decide)), bS]
  unfold ansT
  rw [if_pos rfl]; rfl
 ·rw [if_neg hz, if_neg hz]
  have := row_n (N := N) (l := [0, 0, 0, 0, 0, 0]) (by simp) (fun n hn => by
   simp only [List.mem_cons, List.not_mem_nil, or_false, or_self] at hn
   rw [hn]; exact ⟨by decide, by decide⟩) hN
  dsimp only
  rw [this, bS, jKt qU6, bS]
  unfold ansT
  rw [if_neg hz]
theorem qZr {α β : Type} {P : α → Prop} {f : α → β → α} : ∀ {l : List β} {a : α}, P a → (∀ a, P a → ∀ b ∈ l, P (f a b)) → P (l.foldl f a) := by
 intro l
 induction l with
 | nil => intro a h _; exact h
 | cons b l ih => intro a h hf; exact ih (hf a h b List.mem_cons_self) fun a h c hc => hf a h c (List.mem_cons_of_mem _ hc)
theorem qZ2 {E : jS6} {x : Str} {k : Int} : ∀ a ∈ jL0 E x k, ∃ e ∈ E, e.2.Op = 1 ∧ a.Item = e.2.Item := by
 intro a ha
 unfold jL0 at ha
 obtain ⟨b, hb, rfl⟩ := List.mem_map.1 ha
 have := qZr (P := fun s : qQ2 => ∀ b ∈ s.1, ∃ e ∈ E, e.2.Op = 1 ∧ b.Item = e.2.Item) (f := jCt E x k) (l := E) (a := ([], [])) (fun b hb => by cases hb) (fun s hs e he b hb => by
  unfold jCt at hb
  split at hb
  ·split at hb
   ·rename_i h1
    rcases List.mem_append.1 hb with hb | hb
    ·exact hs b hb
    ·rw [List.mem_singleton] at hb
     exact ⟨e, he, h1, by rw [hb]⟩
   ·split at hb
    ·split at hb
     ·rcases jNj hb with hb | ⟨c, hc, rfl⟩
      ·exact hs b hb
      ·exact hs c hc
     ·exact hs b hb
    ·split at hb
     ·rcases jNj hb with hb | ⟨c, hc, rfl⟩
      ·exact hs b hb
      ·exact hs c hc
     ·exact hs b hb
  ·exact hs b hb)
 exact this b hb
def qVf (a : jJn) : List Int := [a.Estimate, a.Growth, a.Charged, a.Signed, a.Billed, a.Over]
theorem jCm (B : jGb g0 o it gn m) (v : Vl Nm m) (hl : m.length ≤ 400) (hN : 2000 ≤ N) {x : Str} (hx0 : x ≠ []) : ∃ s, jVa N g0 o it gn x = some s := by
 unfold jVa
 rw [jTc B v hl hN hx0, bS]
 by_cases hz : stE m (jG6 m x) = 0
 ·rw [if_pos hz]
  obtain ⟨_, h2, h3⟩ := jB5 (N := N) B v hl hN hx0
  have hnm : ∀ a ∈ jL0 (jQy m) x ((m.length : Int) + 1), a.Item.length ≤ 12 := fun a ha => by
   obtain ⟨e, he, h1, h2⟩ := qZ2 a ha
   obtain ⟨k1, k2, _, k3⟩ := jUh.1 he
   have := (v.at k1 k2).itm
   rw [← k3, if_pos (.inl h1)] at this
   rw [h2]; exact jLc this
  have hov : ∀ a ∈ jL0 (jQy m) x ((m.length : Int) + 1), ∀ n ∈ qVf a, jLn n := fun a ha n hn => by
   have hb := h3 a ha
   have e1 := hb.es
   have e2 := hb.gr
   have e3 := hb.ch
   have e4 := hb.si
   have e5 := hb.bi
   have e6 : 0 ≤ a.Over ∧ a.Over ≤ 2000000000000 := by
    unfold jL0 at ha
    obtain ⟨b, hb, rfl⟩ := List.mem_map.1 ha
    dsimp only at e1 e2 e3 ⊢
    omega
   unfold qVf at hn
   simp only [List.mem_cons, List.not_mem_nil, or_false] at hn
   unfold jLn
   rcases hn with rfl | rfl | rfl | rfl | rfl | rfl <;> omega
  generalize jL0 (jQy m) x ((m.length : Int) + 1) = A at *
  dsimp only
  rw [jV1, jV1]
  by_cases h0 : (A.length : Int) = 0
  ·rw [dT rfl, dT h0]; exact ⟨_, rfl⟩
  ·rw [dF h0, Bool.and_false, cnF]
   have := jU3 (f := jQ3 N (A, 0)) A.length (fun i => (A.take i).map fun a => rowT [a.Item] (qVf a)) (A.map fun a => rowT [a.Item] (qVf a)) (fun i hi => by
    unfold jQ3
    dsimp only
    have ha := List.getElem_mem hi
    have hr := row_t (N := N) (s := A[i].Item) (l := qVf A[i]) (by have := hnm _ ha; omega) (by simp [qVf]) (hov _ ha) hN
    unfold qVf at hr
    rw [jQa, dT (by omega), cnT, jKl hi, bS, hr, bS, jDy (by simp only [List.length_map, List.length_take, List.length_cons, List.length_nil]; omega), bS, jP8 (by omega), List.take_add_one, List.getElem?_eq_getElem hi, List.map_append]; rfl) (by
    unfold jQ3
    dsimp only
    rw [jQa, dF (by omega), cnF, List.take_length]) N (by omega)
   rw [List.take_zero, List.map_nil] at this
   rw [this, bS]
   obtain ⟨h1, _⟩ := jSx (N := N) (xs := A.map fun a => rowT [a.Item] (qVf a)) (sep := ([59, 32] : Str)) (fun s hs => by
    obtain ⟨a, ha, rfl⟩ := List.mem_map.1 hs
    have := qWv (s := a.Item) (l := qVf a) (by have := hnm _ ha; omega) (by simp [qVf]) (hov _ ha)
    omega) (by rw [List.length_map]; omega) (by simp)
   rw [h1, bS, jKt (Er.of (e := 0) (by decide))]
   exact ⟨_, rfl⟩
 ·rw [if_neg hz]
  dsimp only
  rw [jV1, dF hz, Bool.false_and, cnF]
  have : jZw (jQ3 N ([], stE m (jG6 m x))) N (([] : List Str), 0) = some [] := by
   refine jU3 (f := jQ3 N ([], stE m (jG6 m x))) 0 (fun _ => []) [] (fun i hi => absurd hi (Nat.not_lt_zero _)) (by
    unfold jQ3
    dsimp only
    rw [jQa, dF (by simp), cnF]) N (by omega)
  rw [this, bS, (jSx (N := N) (xs := []) (sep := ([59, 32] : Str)) (fun s hs => by cases hs) (by simp) (by simp)).1, bS, jKt qU6]
  exact ⟨_, rfl⟩
theorem qVw (B : jGb g0 o it gn m) (b : jFl m) (hl : m.length ≤ 1000) (hN : 2000 ≤ N) {n : Int} :
  jV5 N g0 o it gn n = some (if 1 ≤ n ∧ n ≤ m.length then (jYu m n, 0) else (false, 6)) := by
 unfold jV5
 rw [has_eq B, bS]
 by_cases h : 1 ≤ n ∧ n ≤ m.length
 ·rw [dT h.1, dT h.2, if_pos h]
  simp only [Bool.and_self, Bool.not_true, cnF]
  rw [jBx B b hl hN (by omega) h.2]; rfl
 ·rw [if_neg h]
  have : (decide (1 ≤ n) && decide (n ≤ (m.length : Int))) = false := by
   rw [← Bool.decide_and]; exact dF h
  rw [this]; rfl
def jS9 (m : List jJu) (n : Int) : Str := if 1 ≤ n ∧ n ≤ m.length then (if jYu m n = true then ([121, 101, 115] : Str) else ([110, 111] : Str)) else ([101, 114, 114, 111, 114, 32] : Str) ++ Lib.itoa 6
theorem jTq (B : jGb g0 o it gn m) (b : jFl m) (hl : m.length ≤ 1000) (hN : 2000 ≤ N) {n : Int} : jWr N g0 o it gn n = some (jS9 m n) := by
 unfold jWr jS9
 rw [qVw B b hl hN, bS]
 by_cases h : 1 ≤ n ∧ n ≤ m.length
 ·rw [if_pos h, if_pos h]
  dsimp only
  cases jYu m n with
  | true => rfl
  | false =>
   rw [cnF, jKt (Er.of (e := 0) (by decide))]; rfl
 ·rw [if_neg h, if_neg h]
  dsimp only
  rw [cnF, jKt (Er.of (e := 6) (by decide))]; rfl
end
end Go.KB
namespace Go.KB
set_option linter.unusedVariables false
theorem qKc {d : Nat} (h : d < 10) : slc ([48, 49, 50, 51, 52, 53, 54, 55, 56, 57] : Str) (d : Int) ((d + 1 : Nat) : Int) = some [UInt8.ofNat (48 + d)] := by
 match d, h with
 | 0, _ => rfl
 | 1, _ => rfl
 | 2, _ => rfl
 | 3, _ => rfl
 | 4, _ => rfl
 | 5, _ => rfl
 | 6, _ => rfl
 | 7, _ => rfl
 | 8, _ => rfl
 | 9, _ => rfl
theorem jAa {N : Nat} {u : Nat} {acc : Str} (hu : u < 100000000000000000) (ha : acc.length ≤ 100) (h : acc = [] ∨ 0 < u) :
  jXp N ((u : Int), acc) = some (.inl (((u / 10 : Nat) : Int), UInt8.ofNat (48 + u % 10) :: acc)) := by
 unfold jXp qUg quoI
 dsimp only
 have hc : (jXn .eql acc ([] : Str) || jJb .gtr (u : Int) 0) = true := by
  rw [jVf, jY9]
  rcases h with h | h
  ·rw [dT h]; rfl
  ·rw [dT (show (0 : Int) < u by omega), Bool.or_true]
 have h1 : (u : Int).tmod 10 = ((u % 10 : Nat) : Int) := by rw [Int.tmod_eq_emod_of_nonneg (by omega)]; omega
 have h2 : (u : Int).tdiv 10 = ((u / 10 : Nat) : Int) := by rw [Int.tdiv_eq_ediv_of_nonneg (by omega)]; omega
 rw [hc, cnT]
 simp only [if_neg (show ¬ (10 : Int) = 0 by decide), bS, h1, h2]
 rw [jP8 (by omega), qKc (Nat.mod_lt _ (by decide)), bS, jYm (by simp only [List.length_cons, List.length_nil]; omega), bS, jDb (by omega) (by omega)]; rfl
theorem qUe {N : Nat} : ∀ (k u : Nat) (acc : Str) (M : Nat), u < 10 ^ k → k ≤ 17 → acc ≠ [] → acc.length + k ≤ 100 → k < M → jZw (jXp N) M ((u : Int), acc) = some ((if u = 0 then [] else Lib.decDigits u) ++ acc) := by
  intro k
  induction k with
  | zero =>
    intro u acc M hu _ ha hl hM
    obtain rfl : u = 0 := by simpa using hu
    obtain ⟨M, rfl⟩ : ∃ q, M = q + 1 := ⟨M - 1, by omega⟩
    unfold jZw jXp
    dsimp only
    rw [jVf, jY9, dF ha, dF (by omega)]; rfl
  | succ k ih =>
    intro u acc M hu hk ha hl hM
    obtain ⟨M, rfl⟩ : ∃ q, M = q + 1 := ⟨M - 1, by omega⟩
    by_cases h0 : u = 0
    · subst h0
      unfold jZw jXp
      dsimp only
      rw [jVf, jY9, dF ha, dF (by omega)]; rfl
    · have hb : u < 100000000000000000 := Nat.lt_of_lt_of_le hu (Nat.le_trans (Nat.pow_le_pow_right (by decide) hk) (by decide))
      unfold jZw
      rw [jAa hb (by omega) (.inr (by omega))]
      dsimp only
      rw [ih (u / 10) (UInt8.ofNat (48 + u % 10) :: acc) M (by rw [Nat.pow_succ] at hu; omega) (by omega) (by simp) (by simp only [List.length_cons]; omega) (by omega), if_neg h0]
      congr 1
      by_cases h1 : u / 10 = 0
      · rw [if_pos h1, Lib.decDigits, dif_pos (by omega), show u % 10 = u by omega]; rfl
      · rw [if_neg h1, Lib.decDigits.eq_1 u, dif_neg (by omega), List.append_assoc]; rfl
theorem qUx {N : Nat} {u : Nat} (hu : u < 100000000000000000) (hN : 100 ≤ N) : jZw (jXp N) N ((u : Int), ([] : Str)) = some (Lib.decDigits u) := by
 obtain ⟨M, hM⟩ : ∃ q, N = q + 1 := ⟨N - 1, by omega⟩
 rw [show jZw (jXp N) N ((u : Int), ([] : Str)) = jZw (jXp N) (M + 1) ((u : Int), ([] : Str)) by rw [← hM]]
 unfold jZw
 rw [jAa hu (by simp) (.inl rfl)]
 dsimp only
 rw [qUe 17 (u / 10) _ M (by omega) (Nat.le_refl _) (by simp) (by simp) (by omega)]
 congr 1
 by_cases h1 : u / 10 = 0
 ·rw [if_pos h1, Lib.decDigits, dif_pos (by omega), show u % 10 = u by omega]; rfl
 ·rw [if_neg h1, Lib.decDigits.eq_1 u, dif_neg (by omega)]
theorem jAr {N : Nat} {n : Int} (h0 : 0 ≤ n) (h : jLn n) (hN : 200 ≤ N) : jQh N n = some (Lib.itoa n) := by
 obtain ⟨M, rfl⟩ : ∃ q, N = q + 1 := ⟨N - 1, by omega⟩
 have h2 := h.2
 unfold jQh jY2
 rw [jQa, dF (by omega), cnF]
 have := qUx (N := M) (u := n.toNat) (by omega) (by omega)
 rw [Int.toNat_of_nonneg h0] at this
 rw [this, bS, jB7 h0]
theorem jL2 {N : Nat} {n : Int} (h : jLn n) (hN : 300 ≤ N) : jQh N n = some (Lib.itoa n) := by
  by_cases h0 : 0 ≤ n
  · exact jAr h0 h (by omega)
  · obtain ⟨M, rfl⟩ : ∃ q, N = q + 1 := ⟨N - 1, by omega⟩
    have h1 := h.1
    unfold jQh jY2
    rw [jQa, dT (by omega), cnT, jDb (by omega) (by omega), jAr (n := 0 - n) (by omega) ⟨by omega, by omega⟩ (by omega), bS]
    have hl := (jWa (n := 0 - n) ⟨by omega, by omega⟩).2
    rw [jYm (by simp only [List.length_cons, List.length_nil]; omega), bS, jBt (n := n) (by omega), jB7 (n := 0 - n) (by omega), show (0 - n).toNat = n.natAbs by omega]; rfl
theorem jP2 {N : Nat} {s : Str} (hs : s.length ≤ 1000000) : ∃ n b, jW9 N s = some (n, b) := by
  unfold jW9 jVn
  obtain ⟨r, hr⟩ := jNf hs
  rw [hr, bS]
  unfold jXf
  cases r.2 with
  | true => exact ⟨_, _, rfl⟩
  | false =>
    simp only [Bool.not_false, cnT, bS, Bool.true_and, jB9, jBu]
    by_cases h : 0 ≤ r.1 ∧ r.1 ≤ 1000000
    · rw [dT h.1, dT h.2, Bool.and_self, cnT, jMn ⟨by omega, by omega⟩]; exact ⟨_, _, rfl⟩
    · have : (decide (0 ≤ r.1) && decide (r.1 ≤ 1000000)) = false := by rw [← Bool.decide_and]; exact dF h
      rw [this]; exact ⟨_, _, rfl⟩
theorem jCq {N : Nat} {n : Int} (h0 : 0 ≤ n) (h : n ≤ 1000000) : jW9 N (Lib.itoa n) = some (n, true) := by
 unfold jW9 jVn
 rw [jLs (by omega), bS]
 unfold jXf
 simp only [Bool.not_false, cnT, bS, Bool.true_and, jB9, jBu]
 rw [dT h0, dT h, Bool.and_self, cnT, jMn ⟨by omega, by omega⟩, bS, jVf, dT rfl]; rfl
structure TrOk (t : jXy) : Prop where
 a : jLn t.Order
 b : jLn t.Item
 c : jLn t.Invoice
 d : t.Amends.length ≤ 400 ∧ ∀ n ∈ t.Amends, jLn n
 e : t.Signs.length ≤ 400 ∧ ∀ n ∈ t.Signs, jLn n
section
variable {N : Nat} {g0 : jJj} {o : List (Str × Int)} {it : List (jJz × Int)} {gn : List (Int × Bool)} {m : List jJu}
theorem jWv {n : Int} (h : 0 ≤ n) (h1 : n ≤ 1000000) : jLn n := ⟨by omega, by omega⟩
theorem qXg (B : jGb g0 o it gn m) (v : Vl Nm m) (hl : m.length ≤ 300) (hN : 2000 ≤ N) {n : Int} : ∃ t e, jWp N g0 o it gn n = some (t, e) ∧ Er e ∧ TrOk t := by
 unfold jWp
 obtain ⟨e, he, hi⟩ := jA4 (N := N) B v.base (by omega) hN (n := n) (ks := [3]) (f := fun x => decide (x = 3)) (by simp) (fun x => by simp)
 rw [he, bS, jYl]
 by_cases hz : e = 0
 ·obtain ⟨h1, h2, _, _⟩ := jLg.1 (hi.1 hz)
  rw [dT hz]
  simp only [Bool.not_true, cnF]
  rw [entry_eq B (by omega) h1 h2, bS]
  unfold jZh
  rw [B.posts, jDb (by omega) (by omega), bS, qQ7 B v (by omega) hN h1 (by omega) (by omega), bS]
  obtain ⟨cov, hc, hcv⟩ := jRk (N := N) B v (by omega) hN (pAt m n).Order
  rw [hc, bS, B.ord, B.itm, hcv n h1 h2]
  have b1 := jFm (l := m) (x := (pAt m n).Order)
  have b2 := jPp (l := m) (x := (pAt m n).Order) (y := (pAt m n).Item)
  have b3 : 0 ≤ cvS m (pAt m n).Order m.length n ∧ cvS m (pAt m n).Order m.length n ≤ m.length := by
   unfold cvS
   split
   ·have := qKz (m := m) (x := (pAt m n).Order) (i := m.length) (n := n); omega
   ·omega
  have b4 : ((qX5 (jQy m) n ((m.length : Int) + 1)).map (·.1)).length ≤ 400 ∧ ∀ k ∈ (qX5 (jQy m) n ((m.length : Int) + 1)).map (·.1), jLn k := by
   constructor
   ·rw [List.length_map]
    have := List.length_filter_le (fun e : Int × jJu => decide (qY2 (jQy m) n ((m.length : Int) + 1) < e.1) && decide (e.1 < (m.length : Int) + 1) && decide (e.2.Op = 4) && decide (e.2.Ref = n)) (jQy m)
    have h3 := qJz (m := m)
    unfold qX5; omega
   ·intro k hk
    obtain ⟨e, he, rfl⟩ := List.mem_map.1 hk
    have := jUh.1 (List.mem_filter.1 he).1
    exact jWv (by omega) (by omega)
  rw [jDb (by omega) (by omega)]
  obtain ⟨r, e1, hr⟩ := jUx (f := jVu N g0 o it gn n) (fun s => ∃ i : Nat, s.2 = i ∧ 1 ≤ i ∧ i ≤ m.length + 1 ∧ TrOk s.1 ∧ s.1.Amends.length ≤ i) (fun s => m.length + 1 - s.2.toNat) TrOk (by
   rintro ⟨t, i'⟩ ⟨i, hi', h3, h4, h5, h6⟩
   dsimp only at hi' h5 h6
   subst hi'
   unfold jVu jZh
   dsimp only
   rw [B.posts, jDb (by omega) (by omega), bS, jQa]
   by_cases hlt : i < m.length + 1
   ·left
    rw [dT (by omega), cnT, entry_eq B (by omega) (by omega) (by omega), bS]
    obtain ⟨b, hb⟩ : ∃ b, (bif (jJb .eql (pAt m (i : Int)).Op 5 && jJb .eql (pAt m (i : Int)).Ref n) then jQd N g0 o it gn (i : Int) else some false) = some b := by
     rw [jBx B v.base (by omega) hN (by omega) (by omega)]
     cases (jJb .eql (pAt m (i : Int)).Op 5 && jJb .eql (pAt m (i : Int)).Ref n) <;> exact ⟨_, rfl⟩
    rw [hb, bS, jP8 (by omega)]
    cases ((jJb .eql (pAt m (i : Int)).Op 5 && jJb .eql (pAt m (i : Int)).Ref n) && b) with
    | true =>
     rw [cnT, jDy (by have := h5.d.1; simp only [List.length_cons, List.length_nil]; omega), bS]
     refine ⟨_, rfl, ⟨i + 1, rfl, by omega, by omega, ⟨h5.a, h5.b, h5.c, ⟨?_, ?_⟩, h5.e⟩, ?_⟩, by dsimp only; omega⟩
     ·simp only [List.length_append, List.length_cons, List.length_nil]; omega
     ·intro k hk
      rcases List.mem_append.1 hk with hk | hk
      ·exact h5.d.2 k hk
      ·rw [List.mem_singleton] at hk; rw [hk]; exact jWv (by omega) (by omega)
     ·simp only [List.length_append, List.length_cons, List.length_nil]; omega
    | false => exact ⟨_, rfl, ⟨i + 1, rfl, by omega, by omega, h5, by dsimp only; omega⟩, by dsimp only; omega⟩
   ·right
    rw [dF (by omega), cnF]
    exact ⟨_, rfl, h5⟩) N (⟨jG6 m (pAt m n).Order, jFk m (pAt m n).Order (pAt m n).Item, [], (qX5 (jQy m) n ((m.length : Int) + 1)).map (·.1), cvS m (pAt m n).Order m.length n⟩, n + 1) ⟨(n + 1).toNat, by dsimp only; omega, by omega, by omega, ⟨show jLn (jG6 m (pAt m n).Order) from jWv b1.1 (by omega), show jLn (jFk m (pAt m n).Order (pAt m n).Item) from jWv b2.1 (by omega), show jLn (cvS m (pAt m n).Order m.length n) from jWv b3.1 (by omega), ⟨by simp, fun k hk => by cases hk⟩, b4⟩, by simp⟩ (by dsimp only; omega)
  rw [e1]
  exact ⟨_, _, rfl, Er.of (e := 0) (by decide), hr⟩
 ·rw [dF hz]
  have b0 : jLn 0 := jWv (by decide) (by decide)
  exact ⟨_, _, rfl, qYl _ he, b0, b0, b0, ⟨by simp, fun k hk => by cases hk⟩, ⟨by simp, fun k hk => by cases hk⟩⟩
theorem qXx (B : jGb g0 o it gn m) (v : Vl Nm m) (hl : m.length ≤ 300) (hN : 2000 ≤ N) {n : Int} : ∃ s, jWh N g0 o it gn n = some s := by
 unfold jWh
 obtain ⟨t, e, h1, h2, h3⟩ := qXg (N := N) B v hl hN (n := n)
 rw [h1, bS]
 dsimp only
 obtain ⟨s4, h4, l4⟩ := qX9 (N := N) h3.d.1 h3.d.2 hN
 obtain ⟨s5, h5, l5⟩ := qX9 (N := N) h3.e.1 h3.e.2 hN
 have k1 := (jWa h3.a).2
 have k2 := (jWa h3.b).2
 have k3 := (jWa h3.c).2
 rw [jMn h3.a, bS, jMn h3.b, bS, h4, bS, h5, bS, jMn h3.c, bS]
 have : ∃ s, jZx N [Lib.itoa t.Order, Lib.itoa t.Item, s4, s5, Lib.itoa t.Invoice] ([32] : Str) = some s := by
  unfold jZx qJ2
  have hj : (Lib.join [Lib.itoa t.Order, Lib.itoa t.Item, s4, s5, Lib.itoa t.Invoice] ([32] : Str)).length ≤ 100000 := by
   rw [Lib.join_cons, List.length_append]
   have := qJb (sep := ([32] : Str)) (K := 10000) [Lib.itoa t.Item, s4, s5, Lib.itoa t.Invoice] (fun s hs => by
    simp only [List.mem_cons, List.not_mem_nil, or_false] at hs
    rcases hs with rfl | rfl | rfl | rfl <;> omega)
   simp only [List.length_cons, List.length_nil] at this
   omega
  rw [show Nat.ble (Lib.join [Lib.itoa t.Order, Lib.itoa t.Item, s4, s5, Lib.itoa t.Invoice] ([32] : Str)).length 140737488355328 = true by rw [Nat.ble_eq]; omega]
  exact ⟨_, rfl⟩
 obtain ⟨s, hs⟩ := this
 rw [hs, bS, jKt h2]
 exact ⟨_, rfl⟩
end
end Go.KB
namespace Go.KB
set_option linter.unusedVariables false
theorem qK2 {y sep : Str} : (Lib.cut y sep).2.1.length ≤ y.length := by
 unfold Lib.cut
 split
 ·dsimp only; rw [List.length_drop]; omega
 ·exact Nat.zero_le _
theorem cutF {N : Nat} {y : Str} (h : y.length ≤ 1000000) : jYy N y ([32] : Str) = some (Lib.cut y [32]) := by
 unfold jYy cutP
 rw [show Nat.blt y.length 4294967281 = true by rw [Nat.blt_eq]; omega]; rfl
theorem qYe {w r : Str} (h : ∀ b ∈ w, b ≠ (32 : UInt8)) : Lib.cut (w ++ 32 :: r) [32] = (w, r, true) := by
 unfold Lib.cut
 rw [jC0 w h, if_pos (by omega), Int.toNat_natCast, List.take_left, ← List.drop_drop, List.drop_left]; rfl
theorem jM6 {N : Nat} (hN : 2000 ≤ N) {c : UInt8} {r : Str} (hc : 58 ≤ c.toNat) (hl : (c :: r).length ≤ 100000) : ∃ q, jXr N (c :: r) = some q ∧ q.2 ≠ 0 := by
 obtain ⟨q, h1, h2⟩ := parse_any hN hl
 refine ⟨q, h1, fun hz => ?_⟩
 have ht := (h2 hz).2
 unfold jB1 jSk at ht
 rw [join_cons] at ht
 cases hi : Lib.itoa q.1.Day with
 | nil => exact qK6 hi
 | cons b l =>
  rw [hi, List.cons_append] at ht
  have hb := jNt (n := q.1.Day) b (by rw [hi]; exact List.mem_cons_self)
  have he := (List.cons.inj ht).1
  rw [he] at hb
  rcases hb with rfl | hb
  ·exact absurd hc (by decide)
  ·omega
section
variable {N : Nat} {g0 : jJj} {o : List (Str × Int)} {it : List (jJz × Int)} {gn : List (Int × Bool)} {m : List jJu}
theorem jCv : (jNn m).length ≤ m.length := jT1
theorem jAv (v : Vl Nm m) : (unj (jl 1 m)).length ≤ 114 * m.length := by
 exact jT2 (l := m) (a := 1) (qYf v) ⟨by decide, by decide⟩
theorem do_any (B : jGb g0 o it gn m) (v : Vl Nm m) (hl : m.length ≤ 200) (hN : 2000 ≤ N) {x : Str} (hx : x.length ≤ 1000) :
    ∃ g' o' it' gn' s m', jQv N g0 o it gn x = some (g', o', it', gn', s) ∧ jGb g' o' it' gn' m' ∧ Vl Nm m' ∧ m'.length ≤ m.length + 1 := by
  unfold jQv
  obtain ⟨q, h1, _⟩ := parse_any hN (s := x) (by omega)
  rw [h1, bS, jV1]
  by_cases hz : q.2 = 0
  · obtain ⟨g', o', it', gn', n, e, hp, hr⟩ := post_eq (N := N) B v (by omega) hN q.1
    have he : Er e := qKh (N := N) (by omega) _ hp
    have hn : jLn n := by
      rcases hr with ⟨_, _, h, _⟩ | ⟨_, _, h, _⟩
      · rw [h]; exact jWv (by omega) (by omega)
      · rw [h]; exact jWv (by decide) (by decide)
    have hnl := (jWa hn).2
    rw [dT hz, cnT, hp, bS]
    dsimp only
    rw [jMn hn, bS, jYm (by simp only [List.length_cons, List.length_nil]; omega), bS, jKt he, bS]
    rcases hr with ⟨hA, _, _, B'⟩ | ⟨_, _, _, B'⟩
    · exact ⟨_, _, _, _, _, m ++ [cl q.1], rfl, B', v.add hA, by simp⟩
    · exact ⟨_, _, _, _, _, m, rfl, B', v, by omega⟩
  · rw [dF hz, cnF, jVf, jVf]
    have hrl := jCv (m := m)
    have hjl := jAv v
    by_cases h2 : x = [114, 101, 115, 116]
    · rw [dT h2, cnT, jCr B v (by omega) hN, bS, jMn (jWv (by omega) (by omega))]
      exact ⟨_, _, _, _, _, m, rfl, B, v, by omega⟩
    · rw [dF h2, cnF]
      by_cases h3 : x = [106, 111, 117, 114, 110, 97, 108]
      · rw [dT h3, cnT, jL5 B v (by omega) hN, bS, jMn (jWv (by omega) (by omega))]
        exact ⟨_, _, _, _, _, m, rfl, B, v, by omega⟩
      · have hcl := qK2 (y := x) (sep := [32])
        obtain ⟨k, b, hk⟩ := jP2 (N := N) (s := (Lib.cut x [32]).2.1) (by omega)
        rw [dF h3, cnF, cutF (by omega), bS, hk, bS, jSz (by omega)]
        generalize Lib.cut x [32] = c at *
        have hsel : ∀ (b1 b2 : Bool), (bif b1 then (some b2 : Option Bool) else some false) = some (b1 && b2) := fun b1 b2 => by cases b1 <;> rfl
        simp only [hsel, bS, ← Bool.and_assoc, Bool.and_self]
        cases hc1 : (jXn .eql c.1 [97, 99, 99, 111, 117, 110, 116] && jUf c.2.1) with
        | true =>
          simp only [Bool.and_eq_true] at hc1
          obtain ⟨s, hs⟩ := jCm (N := N) B v (by omega) hN (x := c.2.1) (jLd hc1.2)
          rw [cnT, hs]
          exact ⟨_, _, _, _, _, m, rfl, B, v, by omega⟩
        | false =>
          rw [cnF]
          cases hc2 : (jXn .eql c.1 [98, 97, 108, 97, 110, 99, 101] && jUf c.2.1) with
          | true =>
            simp only [Bool.and_eq_true] at hc2
            rw [cnT, jN5 B v (by omega) hN (jLd hc2.2)]
            exact ⟨_, _, _, _, _, m, rfl, B, v, by omega⟩
          | false =>
            rw [cnF]
            cases (jXn .eql c.1 [116, 114, 97, 99, 101] && b) with
            | true =>
              obtain ⟨s, hs⟩ := qXx (N := N) B v (by omega) hN (n := k)
              rw [cnT, hs]
              exact ⟨_, _, _, _, _, m, rfl, B, v, by omega⟩
            | false =>
              rw [cnF]
              cases (jXn .eql c.1 [108, 105, 118, 101] && b) with
              | true =>
                rw [cnT, jTq B v.base (by omega) hN]
                exact ⟨_, _, _, _, _, m, rfl, B, v, by omega⟩
              | false => exact ⟨_, _, _, _, _, m, rfl, B, v, by omega⟩
theorem qQl (B : jGb g0 o it gn m) (v : Vl Nm m) (hl : m.length ≤ 200) (hN : 2000 ≤ N) : jQv N g0 o it gn ([106, 111, 117, 114, 110, 97, 108] : Str) = some (g0, o, it, gn, Lib.itoa ((unj (jl 1 m)).length : Int)) := by
 unfold jQv
 obtain ⟨q, h1, h2⟩ := jM6 hN (c := 106) (r := [111, 117, 114, 110, 97, 108]) (by decide) (by simp)
 have hjl := jAv v
 rw [h1, bS, jV1, dF h2, cnF, jVf, jVf, dF (by decide), dT rfl, cnF, cnT, jL5 B v (by omega) hN, bS, jMn (jWv (by omega) (by omega)), bS]
theorem qUk (B : jGb g0 o it gn m) (v : Vl Nm m) (hl : m.length ≤ 200) (hN : 2000 ≤ N) : jQv N g0 o it gn ([114, 101, 115, 116] : Str) = some (g0, o, it, gn, Lib.itoa ((jNn m).length : Int)) := by
 unfold jQv
 obtain ⟨q, h1, h2⟩ := jM6 hN (c := 114) (r := [101, 115, 116]) (by decide) (by simp)
 have hrl := jCv (m := m)
 rw [h1, bS, jV1, dF h2, cnF, jVf, dT rfl, cnT, jCr B v (by omega) hN, bS, jMn (jWv (by omega) (by omega)), bS]
theorem qJ1 (B : jGb g0 o it gn m) (v : Vl Nm m) (hl : m.length ≤ 200) (hN : 2000 ≤ N) {x : Str} (hx : jUf x = true) : jQv N g0 o it gn (([98, 97, 108, 97, 110, 99, 101, 32] : Str) ++ x) = some (g0, o, it, gn, qKb m x) := by
 unfold jQv
 have hlx := jLc hx
 obtain ⟨q, h1, h2⟩ := jM6 hN (c := 98) (r := ([97, 108, 97, 110, 99, 101, 32] : Str) ++ x) (by decide) (by simp only [List.length_cons, List.length_append, List.length_nil]; omega)
 have h1 : jXr N (([98, 97, 108, 97, 110, 99, 101, 32] : Str) ++ x) = some q := h1
 obtain ⟨k, b, hk⟩ := jP2 (N := N) (s := x) (by omega)
 rw [h1, bS, jV1, dF h2, cnF, jVf, jVf, dF (show ¬ ([98, 97, 108, 97, 110, 99, 101, 32] : Str) ++ x = [114, 101, 115, 116] from fun h => absurd (List.cons.inj h).1 (by decide)), dF (show ¬ ([98, 97, 108, 97, 110, 99, 101, 32] : Str) ++ x = [106, 111, 117, 114, 110, 97, 108] from fun h => absurd (List.cons.inj h).1 (by decide)), cnF, cnF, cutF (by simp only [List.length_cons, List.length_append, List.length_nil]; omega)]
 have hc : Lib.cut (([98, 97, 108, 97, 110, 99, 101, 32] : Str) ++ x) [32] = (([98, 97, 108, 97, 110, 99, 101] : Str), x, true) := qYe (w := [98, 97, 108, 97, 110, 99, 101]) (r := x) (by decide)
 rw [hc, bS]
 dsimp only
 rw [hk, bS, jSz (by omega), hx, jVf, jVf, dF (show ¬ ([98, 97, 108, 97, 110, 99, 101] : Str) = [97, 99, 99, 111, 117, 110, 116] by decide), dT (show ([98, 97, 108, 97, 110, 99, 101] : Str) = [98, 97, 108, 97, 110, 99, 101] from rfl)]
 simp only [cnF, bS, Bool.false_and, cnT, Bool.and_self]
 rw [jN5 B v (by omega) hN (jLd hx), bS]
theorem qK3 (B : jGb g0 o it gn m) (v : Vl Nm m) (hl : m.length ≤ 200) (hN : 2000 ≤ N) {n : Int} (h0 : 0 ≤ n) (hn : n ≤ 1000) : jQv N g0 o it gn (([108, 105, 118, 101, 32] : Str) ++ Lib.itoa n) = some (g0, o, it, gn, jS9 m n) := by
 unfold jQv
 have hlx := (jWa (jWv h0 (by omega))).2
 obtain ⟨q, h1, h2⟩ := jM6 hN (c := 108) (r := ([105, 118, 101, 32] : Str) ++ Lib.itoa n) (by decide) (by simp only [List.length_cons, List.length_append, List.length_nil]; omega)
 have h1 : jXr N (([108, 105, 118, 101, 32] : Str) ++ Lib.itoa n) = some q := h1
 rw [h1, bS, jV1, dF h2, cnF, jVf, jVf, dF (show ¬ ([108, 105, 118, 101, 32] : Str) ++ Lib.itoa n = [114, 101, 115, 116] from fun h => absurd (List.cons.inj h).1 (by decide)), dF (show ¬ ([108, 105, 118, 101, 32] : Str) ++ Lib.itoa n = [106, 111, 117, 114, 110, 97, 108] from fun h => absurd (List.cons.inj h).1 (by decide)), cnF, cnF, cutF (by simp only [List.length_cons, List.length_append, List.length_nil]; omega)]
 have hc : Lib.cut (([108, 105, 118, 101, 32] : Str) ++ Lib.itoa n) [32] = (([108, 105, 118, 101] : Str), Lib.itoa n, true) := qYe (w := [108, 105, 118, 101]) (r := Lib.itoa n) (by decide)
 rw [hc, bS]
 dsimp only
 rw [jCq h0 (by omega), bS]
 have e1 : jXn .eql ([108, 105, 118, 101] : Str) [97, 99, 99, 111, 117, 110, 116] = false := by rw [jVf]; exact dF (by decide)
 have e2 : jXn .eql ([108, 105, 118, 101] : Str) [98, 97, 108, 97, 110, 99, 101] = false := by rw [jVf]; exact dF (by decide)
 have e3 : jXn .eql ([108, 105, 118, 101] : Str) [116, 114, 97, 99, 101] = false := by rw [jVf]; exact dF (by decide)
 have e4 : jXn .eql ([108, 105, 118, 101] : Str) [108, 105, 118, 101] = true := by rw [jVf]; exact dT rfl
 rw [e1, e2, e3, e4]
 simp only [cnF, bS, Bool.false_and, cnT, Bool.and_self]
 rw [jTq B v.base (by omega) hN, bS]
end
end Go.KB
