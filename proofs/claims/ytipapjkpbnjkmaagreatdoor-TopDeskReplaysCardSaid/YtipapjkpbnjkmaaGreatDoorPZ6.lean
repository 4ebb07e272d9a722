/- The text of a post, and the lines of a journal. Sums, lines, the journal. A post's text is read back; any text is read, or it is not. A journal that is cut is recovered as far as its lines are whole. No condition. -/
import Derived.Test.YtipapjkpbnjkmaaGreatDoorPZ4
import Derived.Test.YtipapjkpbnjkmaaGreatDoorPZ1
namespace Go.KB
set_option linter.unusedVariables false
def wdsL : List Str := [([111, 114, 100, 101, 114] : Str), ([105, 116, 101, 109] : Str), ([103, 114, 111, 119, 116, 104] : Str), ([99, 104, 97, 114, 103, 101] : Str), ([115, 105, 103, 110] : Str), ([97, 109, 101, 110, 100] : Str), ([105, 110, 118, 111, 105, 99, 101] : Str), ([112, 97, 121] : Str), ([119, 105, 116, 104, 100, 114, 97, 119] : Str)]
def wd (o : Int) : Str := wdsL[o.toNat]!
def sh (p : jJu) (f : jJd) : Str :=
 match f.text, f.number with
 | some k, _ => (jJu.gS p k).getD []
 | none, some k => Lib.itoa ((jJu.gI p k).getD 0)
 | none, none => []
def jSk (p : jJu) : List Str := Lib.itoa p.Day :: wd p.Op :: (fl p.Op).map (sh p)
def jB1 (p : jJu) : Str := Lib.join (jSk p) [32]
def Wd (s : Str) : Prop := s.length ≤ 12 ∧ ∀ b ∈ s, 45 ≤ b.toNat
theorem wd_ok {o : Int} (h : 0 ≤ o ∧ o ≤ 8) : Wd (wd o) := by
 rcases jF8 h with rfl | rfl | rfl | rfl | rfl | rfl | rfl | rfl | rfl <;> exact ⟨by decide, by decide⟩
theorem nm_ok {s : Str} (h : Nm s) : Wd s := by
 have h : jUf s = true := h
 unfold jUf at h
 cases s with
 | nil => cases h
 | cons c r =>
  simp only [Bool.and_eq_true, decide_eq_true_eq, List.all_eq_true] at h
  obtain ⟨⟨h1, h2⟩, h3⟩ := h
  have hl : ∀ b : UInt8, jH2 b = true → 45 ≤ b.toNat := fun b hb => by
   unfold jH2 chr at hb
   simp only [Bool.or_eq_true, Bool.and_eq_true, decide_eq_true_eq] at hb
   omega
  refine ⟨by simp; omega, fun b hb => ?_⟩
  rcases List.mem_cons.1 hb with rfl | hb
  ·exact hl _ h2
  ·have := h3 b hb
   unfold jHu at this
   simp only [Bool.or_eq_true, Bool.and_eq_true, decide_eq_true_eq] at this
   rcases this with (this | this) | this
   ·exact hl _ this
   ·unfold chr at this; omega
   ·unfold chr at this; omega
theorem qZg {n : Int} (h : n.natAbs < 10000000000) : Wd (Lib.itoa n) := by
 refine ⟨by have := jM8 h; omega, fun b hb => ?_⟩
 rcases jNt b hb with rfl | hb
 ·decide
 ·omega
theorem qU4 {o : Int} : ∀ f ∈ fl o, -1000000000 ≤ f.low ∧ f.high ≤ 1000000000 := by
 unfold fl
 repeat' split
 all_goals
  intro f hf
  simp only [List.mem_cons, List.not_mem_nil, or_false] at hf
  rcases hf with rfl | rfl | rfl | rfl <;> exact ⟨by decide, by decide⟩
theorem sh_ok {p : jJu} {f : jJd} (hf : FOk f) (hb : -1000000000 ≤ f.low ∧ f.high ≤ 1000000000) (hc : jPz p f = 0) : Wd (sh p f) := by
 rcases hf with ⟨k, rfl, hk⟩ | ⟨k, lo, hi, rfl, hk⟩
 ·unfold jPz fT at hc
  dsimp only at hc
  rw [if0 (by decide)] at hc
  exact nm_ok hc
 ·unfold jPz fN at hc
  dsimp only at hc
  rw [if0p (by decide)] at hc
  unfold fN at hb
  dsimp only at hb
  exact qZg (by omega)
theorem jCl {p : jJu} (h : jF2 p = 0) : ∀ s ∈ jSk p, Wd s := by
 obtain ⟨h1, h2, h3⟩ := jNq.1 h
 intro s hs
 unfold jSk at hs
 rcases List.mem_cons.1 hs with rfl | hs
 ·exact qZg (by omega)
 ·rcases List.mem_cons.1 hs with rfl | hs
  ·exact wd_ok h1
  ·obtain ⟨f, hf, rfl⟩ := List.mem_map.1 hs
   exact sh_ok (qQg f hf) (qU4 f hf) (h3 f hf)
theorem tail_cons {y : Str} {r : List Str} : Lib.joinTail [32] (y :: r) = 32 :: (y ++ Lib.joinTail [32] r) := by simp [Lib.joinTail]
theorem qWa : ∀ (r : List Str), (∀ s ∈ r, s.length ≤ 12) → (Lib.joinTail [32] r).length ≤ 13 * r.length := by
 intro r
 induction r with
 | nil => intro _; simp [Lib.joinTail]
 | cons y r ih =>
  intro h
  have h1 := h y List.mem_cons_self
  have h2 := ih fun s hs => h s (List.mem_cons_of_mem _ hs)
  rw [tail_cons, List.length_cons, List.length_cons, List.length_append]
  omega
theorem join_cons {x : Str} {r : List Str} : Lib.join (x :: r) [32] = x ++ Lib.joinTail [32] r := Lib.join_cons x r [32]
theorem jR5 {p : jJu} (h : jF2 p = 0) : (jB1 p).length ≤ 100 := by
 have hw := jCl h
 unfold jB1
 unfold jSk at hw ⊢
 rw [join_cons, List.length_append]
 have h1 := (hw _ List.mem_cons_self).1
 have h2 := qWa (wd p.Op :: (fl p.Op).map (sh p)) (fun s hs => (hw s (List.mem_cons_of_mem _ hs)).1)
 have h3 := jFh (o := p.Op)
 rw [List.length_cons, List.length_map] at h2
 omega
theorem qWl : ∀ (r : List Str) (b : UInt8), b ∈ Lib.joinTail [32] r → b = 32 ∨ ∃ s ∈ r, b ∈ s := by
 intro r
 induction r with
 | nil => intro b hb; simp [Lib.joinTail] at hb
 | cons y r ih =>
  intro b hb
  rw [tail_cons, List.mem_cons, List.mem_append] at hb
  rcases hb with rfl | hb | hb
  ·exact .inl rfl
  ·exact .inr ⟨y, List.mem_cons_self, hb⟩
  ·rcases ih b hb with h | ⟨s, hs, h⟩
   ·exact .inl h
   ·exact .inr ⟨s, List.mem_cons_of_mem _ hs, h⟩
theorem qWk {p : jJu} (h : jF2 p = 0) : ∀ b ∈ jB1 p, b = 32 ∨ 45 ≤ b.toNat := by
 have hw := jCl h
 intro b hb
 unfold jB1 at hb
 unfold jSk at hw hb
 rw [join_cons, List.mem_append] at hb
 rcases hb with hb | hb
 ·exact .inr ((hw _ List.mem_cons_self).2 b hb)
 ·rcases qWl _ b hb with h | ⟨s, hs, h⟩
  ·exact .inl h
  ·exact .inr ((hw s (List.mem_cons_of_mem _ hs)).2 b h)
theorem qXb {p : jJu} (h : jF2 p = 0) : jMf 32 (jB1 p) = jSk p := by
 have hw := jCl h
 have hn : ∀ s, Wd s → ∀ b ∈ s, b ≠ (32 : UInt8) := fun s hs b hb e => by
  have := hs.2 b hb
  rw [e] at this; exact absurd this (by decide)
 unfold jB1
 unfold jSk at hw ⊢
 rw [join_cons]
 exact qX0 _ _ (hn _ (hw _ List.mem_cons_self)) fun y hy => hn y (hw y (List.mem_cons_of_mem _ hy))
theorem jM5 {n : Int} (h : -9223372036854775808 ≤ n ∧ n ≤ 9223372036854775807) : qQj n = some (Lib.itoa n) := by
 unfold qQj inI
 rw [dT h.1, dT h.2]; rfl
theorem qUd {N : Nat} {p : jJu} {v : List jJd} {acc : List Str} {i : Nat} (hi : i < v.length) (hf : FOk v[i]!) (hb : -1000000000 ≤ v[i]!.low ∧ v[i]!.high ≤ 1000000000) (hc : jPz p v[i]! = 0) (hl : v.length ≤ 4) (ha : acc.length ≤ 100) :
    jVk N p v (acc, (i : Int)) = some (.inl (acc ++ [sh p v[i]!], ((i + 1 : Nat) : Int))) := by
  unfold jVk
  dsimp only
  rw [jQa, dT (by omega), cnT, qKx hi, bS, jP8 (by omega)]
  generalize v[i]! = f at *
  rcases hf with ⟨k, rfl, hk⟩ | ⟨k, lo, hi', rfl, hk⟩
  · have hk2 : ∃ s, jJu.gS p k = some s := by rcases hk with rfl | rfl | rfl | rfl <;> exact ⟨_, rfl⟩
    obtain ⟨s, hs⟩ := hk2
    unfold fT sh
    simp only [Option.isSome_some, cnT, bS, hs, Option.getD_some]
    rw [jDy (by simp; omega), bS]
  · have hk2 : ∃ s, jJu.gI p k = some s := by rcases hk with rfl | rfl | rfl <;> exact ⟨_, rfl⟩
    obtain ⟨s, hs⟩ := hk2
    unfold jPz fN at hc
    dsimp only at hc
    rw [if0p (by decide), hs, Option.getD_some] at hc
    unfold fN at hb
    dsimp only at hb
    unfold fN sh jQ0
    simp only [Option.isSome_none, cnF, bS, hs, Option.getD_some]
    rw [jM5 (by omega), bS, jDy (by simp; omega), bS]
theorem jP9 {N : Nat} (hN : 5 ≤ N) {p : jJu} (h : jF2 p = 0) : jYk N p = some (jB1 p) := by
 obtain ⟨h1, h2, h3⟩ := jNq.1 h
 unfold jYk jQ0 jYh
 rw [jM5 (by omega), bS, bS]
 have hw : idx ([([111, 114, 100, 101, 114] : Str), ([105, 116, 101, 109] : Str), ([103, 114, 111, 119, 116, 104] : Str), ([99, 104, 97, 114, 103, 101] : Str), ([115, 105, 103, 110] : Str), ([97, 109, 101, 110, 100] : Str), ([105, 110, 118, 111, 105, 99, 101] : Str), ([112, 97, 121] : Str), ([119, 105, 116, 104, 100, 114, 97, 119] : Str)]) p.Op = some (wd p.Op) := by
  rcases jF8 h1 with k | k | k | k | k | k | k | k | k <;> rw [k] <;> rfl
 rw [hw, bS, jBb, bS]
 have := jU3 (f := jVk N p (fl p.Op)) (fl p.Op).length (fun i => Lib.itoa p.Day :: wd p.Op :: ((fl p.Op).take i).map (sh p)) (jSk p) (fun i hi => by
  have hm : (fl p.Op)[i]! ∈ fl p.Op := by rw [jRg hi]; exact List.getElem_mem _
  have hl := jFh (o := p.Op)
  rw [qUd hi (qQg _ hm) (qU4 _ hm) (h3 _ hm) hl (by simp; omega), List.take_succ_eq_append_getElem hi, List.map_append, jRg hi]; rfl) (by
  unfold jVk
  dsimp only
  rw [jQa, dF (by omega), cnF, List.take_length]; rfl) N (by have := jFh (o := p.Op); omega)
 rw [show (Lib.itoa p.Day :: wd p.Op :: ((fl p.Op).take 0).map (sh p), (0 : Int)) = ([Lib.itoa p.Day, wd p.Op], (0 : Int)) from rfl] at this
 rw [this, bS]
 unfold jZx qJ2
 have ht := jR5 h
 have hl := jFh (o := p.Op)
 unfold jB1 at ht
 rw [show Nat.ble (Lib.join (jSk p) [32]).length 140737488355328 = true by rw [Nat.ble_eq]; omega, show Nat.ble (jSk p).length 140737488355328 = true by
  rw [Nat.ble_eq]; unfold jSk; rw [List.length_cons, List.length_cons, List.length_map]; omega]
 rfl
def ckS (a : Int) (c : UInt8) : Int := (31 * a + chr c + 1) % 65521
def cks (a : Int) (s : Str) : Int := s.foldl ckS a
theorem jNd : ∀ {s : Str} {a : Int}, 0 ≤ a ∧ a < 65521 → 0 ≤ cks a s ∧ cks a s < 65521
 | [], a, h => h
 | c :: s, a, h => jNd (s := s) (a := ckS a c) (by unfold ckS; omega)
end Go.KB
namespace Go.KB
set_option linter.unusedVariables false
theorem jYm {a b : Str} (h : a.length + b.length ≤ 1000000) : jMq a b = some (a ++ b) := by
 unfold jMq
 rw [show Nat.ble (a.length + b.length) lim = true by rw [Nat.ble_eq]; exact Nat.le_trans h (by decide), cnT]
theorem qU0 {a b : Str} (h : a.length + b.length ≤ 1000000) : bldW a b = some (a ++ b) := by
 unfold bldW
 rw [show Nat.ble (a.length + b.length) 140737488355328 = true by rw [Nat.ble_eq]; omega, cnT]
theorem qYv {s : Str} {a : Int} {i : Nat} (h : i < s.length) : cks a (s.take (i + 1)) = ckS (cks a (s.take i)) s[i] := by
 unfold cks
 rw [List.take_succ_eq_append_getElem h, List.foldl_append]; rfl
theorem jAx {N : Nat} (hN : 2000 ≤ N) {s : Str} {a : Int} (ha : 0 ≤ a ∧ a < 65521) (hs : s.length ≤ 1000) : jY0 N a s = some (cks a s) := by
 unfold jY0
 have := jU3 (f := jV6 N s) s.length (fun i => cks a (s.take i)) (cks a s) (fun i hi => by
  unfold jV6
  dsimp only
  have hc : 0 ≤ chr s[i] ∧ chr s[i] < 256 := by unfold chr; have := UInt8.toNat_lt s[i]; omega
  have hb := jNd (s := s.take i) ha
  rw [jFv, jQa, dT (by omega), cnT, jP6 hi, bS, jP8 (by omega), jDb (n := 31 * cks a (s.take i)) (by omega) (by omega), jDb (n := chr s[i]) (by omega) (by omega), jDb (n := 31 * cks a (s.take i) + chr s[i]) (by omega) (by omega), jDb (by omega) (by omega)]
  unfold qUg
  rw [if_neg (by decide), bS, qYv hi]
  unfold ckS
  rw [Int.tmod_eq_emod_of_nonneg (by omega)]) (by
  unfold jV6
  dsimp only
  rw [jFv, jQa, dF (by omega), cnF, List.take_length]) N (by omega)
 rw [show (cks a (s.take 0), (0 : Int)) = (a, (0 : Int)) from rfl] at this
 rw [this]; rfl
def lnT (p : jJu) (a : Int) : Str := jB1 p ++ 32 :: 35 :: Lib.itoa (cks a (jB1 p))
theorem jN3 {p : jJu} {a : Int} (h : jF2 p = 0) (ha : 0 ≤ a ∧ a < 65521) : (lnT p a).length ≤ 113 := by
 unfold lnT
 have h1 := jR5 h
 have hb := jNd (s := jB1 p) ha
 have h2 := jM8 (n := cks a (jB1 p)) (by omega)
 simp only [List.length_append, List.length_cons]
 omega
theorem jCb {N : Nat} (hN : 2000 ≤ N) {p : jJu} {a : Int} (h : jF2 p = 0) (ha : 0 ≤ a ∧ a < 65521) : jK8 N p a = some (lnT p a ++ [10], cks a (jB1 p)) := by
 unfold jK8
 have h1 := jR5 h
 have hb := jNd (s := jB1 p) ha
 have h2 := jM8 (n := cks a (jB1 p)) (by omega)
 rw [jP9 (by omega) h, bS, jAx hN ha (by omega), bS, jYm (by simp; omega), bS]
 unfold jQ0
 rw [jM5 (by omega), bS, jYm (by simp; omega), bS, jYm (by simp; omega), bS]
 unfold lnT
 simp
def jl : Int → List jJu → List Str
 | _, [] => []
 | a, p :: l => lnT p a :: jl (cks a (jB1 p)) l
def sm : Int → List jJu → Int
 | a, [] => a
 | a, p :: l => sm (cks a (jB1 p)) l
def unj : List Str → Str
 | [] => []
 | x :: l => x ++ 10 :: unj l
theorem qZv : ∀ {l r : List Str}, unj (l ++ r) = unj l ++ unj r
 | [], r => rfl
 | x :: l, r => by rw [List.cons_append, unj, unj, qZv]; simp
theorem qY9 : ∀ {l r : List jJu} {a : Int}, jl a (l ++ r) = jl a l ++ jl (sm a l) r
 | [], r, a => rfl
 | p :: l, r, a => by rw [List.cons_append, jl, jl, sm, qY9]; rfl
theorem qYc : ∀ {l r : List jJu} {a : Int}, sm a (l ++ r) = sm (sm a l) r
 | [], r, a => rfl
 | p :: l, r, a => by rw [List.cons_append, sm, sm, qYc]
theorem qUl : ∀ {l : List jJu} {a : Int}, 0 ≤ a ∧ a < 65521 → 0 ≤ sm a l ∧ sm a l < 65521
 | [], a, h => h
 | p :: l, a, h => qUl (l := l) (jNd h)
theorem jT2 : ∀ {l : List jJu} {a : Int}, (∀ p ∈ l, jF2 p = 0) → 0 ≤ a ∧ a < 65521 → (unj (jl a l)).length ≤ 114 * l.length
 | [], a, _, _ => by simp [jl, unj]
 | p :: l, a, h, ha => by
  have h1 := jN3 (h p List.mem_cons_self) ha
  have h2 := jT2 (l := l) (a := cks a (jB1 p)) (fun q hq => h q (List.mem_cons_of_mem _ hq)) (jNd ha)
  rw [jl, unj, List.length_append, List.length_cons, List.length_cons]
  omega
section
variable {N : Nat} {g0 : jJj} {o : List (Str × Int)} {it : List (jJz × Int)} {gn : List (Int × Bool)} {m : List jJu}
theorem qYf (v : Vl Nm m) : ∀ p ∈ m, jF2 p = 0 := fun p hp => by
 obtain ⟨n, h1, h2, rfl⟩ := qKs hp
 have := v.at h1 h2
 rw [jP5, jS7 this]; exact this
theorem jL5 (B : jGb g0 o it gn m) (v : Vl Nm m) (hl : m.length ≤ 400) (hN : 2000 ≤ N) : jZ0 N g0 o it gn = some (unj (jl 1 m)) := by
  unfold jZ0
  have hc := qYf v
  have := jM7 (f := jZ4 N g0) (fun s => ∃ i : Nat, i ≤ m.length ∧ s = (sm 1 (m.take i), (i : Int), unj (jl 1 (m.take i)))) (fun s => m.length - s.2.1.toNat) (unj (jl 1 m)) (by
    rintro s ⟨i, hi, rfl⟩
    unfold jZ4
    dsimp only
    rw [B.posts]
    by_cases hlt : i < m.length
    · left
      have hb := qUl (l := m.take i) (a := 1) ⟨by decide, by decide⟩
      have hp := hc m[i] (List.getElem_mem _)
      have hlen := jT2 (l := m.take i) (a := 1) (fun p hp => hc p (List.mem_of_mem_take hp)) ⟨by decide, by decide⟩
      have hln := jN3 hp hb
      rw [List.length_take] at hlen
      rw [jQa, dT (by omega), cnT, jKl hlt, bS, jCb hN hp hb, bS, jP8 (by omega)]
      dsimp only
      rw [qU0 (by rw [List.length_append, List.length_singleton]; omega), bS]
      refine ⟨_, rfl, ⟨i + 1, by omega, ?_⟩, by dsimp only; omega⟩
      rw [List.take_succ_eq_append_getElem hlt, qY9, qYc, qZv]
      simp [jl, unj, sm]
    · obtain rfl : i = m.length := by omega
      right
      rw [jQa, dF (by omega), cnF, List.take_length]) N (1, 0, []) ⟨0, by omega, rfl⟩ (by dsimp only; omega)
  rw [this, bS]
  rfl
end
end Go.KB
namespace Go.KB
set_option linter.unusedVariables false
theorem qYt {N : Nat} {l : List Str} {x : Str} (hl : l.length < 1000) (hN : 2000 ≤ N) : ∃ r, jQ8 N l x = some r ∧ -1 ≤ r ∧ r < l.length ∧ ∀ i, i < l.length → (∀ j, j < i → l[j]! ≠ x) → l[i]! = x → r = i := by
  unfold jQ8
  obtain ⟨r, e, h⟩ := jUx (f := jX1 N l x) (fun s => ∃ i : Nat, s = i ∧ i ≤ l.length ∧ ∀ j, j < i → l[j]! ≠ x) (fun s => l.length - s.toNat) (fun r => match r with | .inl _ => ∀ j, j < l.length → l[j]! ≠ x | .inr k => ∃ i : Nat, k = i ∧ i < l.length ∧ l[i]! = x ∧ ∀ j, j < i → l[j]! ≠ x) (by
    rintro s ⟨i, rfl, hi, h0⟩
    unfold jX1
    by_cases hlt : i < l.length
    · rw [jQa, dT (by omega), cnT, qKx hlt, bS, jVf]
      by_cases hx : x = l[i]!
      · right; rw [dT hx]; exact ⟨.inr i, rfl, i, rfl, hlt, hx.symm, h0⟩
      · left
        rw [dF hx, cnF, jP8 (by omega)]
        refine ⟨_, rfl, ⟨i + 1, rfl, by omega, fun j hj => ?_⟩, by omega⟩
        by_cases hji : j = i
        · rw [hji]; exact fun e => hx e.symm
        · exact h0 j (by omega)
    · obtain rfl : i = l.length := by omega
      right
      exact ⟨.inl (), by rw [jQa, dF (by omega), cnF], h0⟩) N 0 ⟨0, rfl, by omega, fun j hj => by omega⟩ (by omega)
  rw [e, bS]
  cases r with
  | inl u => exact ⟨-1, rfl, by omega, by omega, fun i hi _ hx => absurd hx (h i hi)⟩
  | inr k =>
    obtain ⟨i, rfl, hi, hx, h0⟩ := h
    refine ⟨(i : Int), rfl, by omega, by omega, fun j hj h1 h2 => ?_⟩
    have : i = j := by
      rcases Nat.lt_trichotomy i j with h | h | h
      · exact absurd hx (h1 i h)
      · exact h
      · exact absurd h2 (h0 j h)
    rw [this]
theorem qWf {N : Nat} (hN : 2000 ≤ N) {o : Int} (h : 0 ≤ o ∧ o ≤ 8) : jQ8 N wdsL (wd o) = some o := by
 obtain ⟨r, e, _, _, hr⟩ := qYt (N := N) (l := wdsL) (x := wd o) (by decide) hN
 rw [e]
 congr 1
 rcases jF8 h with rfl | rfl | rfl | rfl | rfl | rfl | rfl | rfl | rfl
 ·exact hr 0 (by decide) (by decide) rfl
 ·exact hr 1 (by decide) (by decide) rfl
 ·exact hr 2 (by decide) (by decide) rfl
 ·exact hr 3 (by decide) (by decide) rfl
 ·exact hr 4 (by decide) (by decide) rfl
 ·exact hr 5 (by decide) (by decide) rfl
 ·exact hr 6 (by decide) (by decide) rfl
 ·exact hr 7 (by decide) (by decide) rfl
 ·exact hr 8 (by decide) (by decide) rfl
abbrev z0P : jJu := ⟨0, 0, [], [], [], [], 0, 0, 0⟩
theorem jNf {w : Str} (h : w.length ≤ 1000000) : ∃ r, jCg w = some r := by
 unfold jCg
 rw [show Nat.ble w.length 281474976710656 = true by rw [Nat.ble_eq]; omega, cnT]
 exact ⟨_, rfl⟩
theorem jLs {n : Int} (h : n.natAbs < 10000000000) : jCg (Lib.itoa n) = some (n, false) := by
 unfold jCg
 have := jM8 h
 rw [show Nat.ble (Lib.itoa n).length 281474976710656 = true by rw [Nat.ble_eq]; omega, cnT, qZ8 (by omega)]
theorem ps_any {N : Nat} {v : List jJd} {ws : List Str} {r0 q : jJu} {i : Nat} (hi : i < ws.length) (hv : v.length = ws.length) (hf : FOk v[i]!) (hw : (ws[i]!).length ≤ 1000000) (hl : v.length ≤ 4) :
  (∃ q', jQc N v ws (r0, (i : Int), q) = some (.inl (r0, ((i + 1 : Nat) : Int), q'))) ∨ jQc N v ws (r0, (i : Int), q) = some (.inr (.inr (z0P, 7, q))) := by
 unfold jQc
 dsimp only
 rw [jQa, dT (by omega), cnT, qKx hi, bS, qKx (by omega), bS, bS, jP8 (by omega)]
 simp only [bS]
 generalize v[i]! = f at *
 generalize ws[i]! = w at *
 rcases hf with ⟨k, rfl, hk⟩ | ⟨k, lo, hi', rfl, hk⟩
 ·left
  have hk2 : ∃ s, jJu.sS q k w = some s := by rcases hk with rfl | rfl | rfl | rfl <;> exact ⟨_, rfl⟩
  obtain ⟨s, hs⟩ := hk2
  unfold fT
  simp only [Option.isSome_some, cnT, bS, hs]
  exact ⟨s, rfl⟩
 ·obtain ⟨r, hr⟩ := jNf hw
  unfold fN jVn
  simp only [Option.isSome_none, cnF, hr, bS]
  cases hb : r.2 with
  | true => right; rfl
  | false =>
   left
   have hk2 : ∃ s, jJu.sI q k r.1 = some s := by rcases hk with rfl | rfl | rfl <;> exact ⟨_, rfl⟩
   obtain ⟨s, hs⟩ := hk2
   rw [cnF, hs, bS]
   exact ⟨s, rfl⟩
theorem ps_own {N : Nat} {p : jJu} {v : List jJd} {ws : List Str} {r0 q : jJu} {i : Nat} (hi : i < ws.length) (hv : v.length = ws.length) (hf : FOk v[i]!) (hb : -1000000000 ≤ v[i]!.low ∧ v[i]!.high ≤ 1000000000) (hc : jPz p v[i]! = 0) (hw : ws[i]! = sh p v[i]!) (hl : v.length ≤ 4) :
  jQc N v ws (r0, (i : Int), q) = some (.inl (r0, ((i + 1 : Nat) : Int), qVm p q v[i]!)) := by
 unfold jQc
 dsimp only
 rw [jQa, dT (by omega), cnT, qKx hi, bS, qKx (by omega), bS, bS, jP8 (by omega), hw]
 simp only [bS]
 generalize v[i]! = f at *
 rcases hf with ⟨k, rfl, hk⟩ | ⟨k, lo, hi', rfl, hk⟩
 ·rcases hk with rfl | rfl | rfl | rfl <;> rfl
 ·unfold jPz fN at hc
  dsimp only at hc
  rw [if0p (by decide)] at hc
  unfold fN at hb
  dsimp only at hb
  have ha := jLs (n := (jJu.gI p k).getD 0) (by omega)
  unfold fN sh jVn qVm
  dsimp only
  rw [ha]
  rcases hk with rfl | rfl | rfl <;> rfl
theorem qWs : ∀ (s : Str), ∀ w ∈ jMf 32 s, w.length ≤ s.length := by
 intro s
 induction s with
 | nil => intro w hw; rw [jMf, List.mem_singleton] at hw; rw [hw]; exact Nat.le_refl _
 | cons b r ih =>
  intro w hw
  rw [jMf] at hw
  split at hw
  ·rcases List.mem_cons.1 hw with rfl | hw
   ·simp
   ·have := ih w hw; simp; omega
  ·cases h : jMf 32 r with
   | nil => exact absurd h (qU2 r)
   | cons x l =>
    rw [h] at hw ih
    simp only at hw
    rcases List.mem_cons.1 hw with rfl | hw
    ·have := ih x List.mem_cons_self; simp; omega
    ·have := ih w (List.mem_cons_of_mem _ hw); simp; omega
theorem jAf {N : Nat} {s : Str} (h : s.length ≤ 1000000) : jU6 N s ([32] : Str) = some (jMf 32 s) := by
 unfold jU6 jA1
 rw [show Nat.blt s.length 4294967281 = true by rw [Nat.blt_eq]; omega, qQv]; rfl
theorem jSp {N : Nat} (hN : 13 ≤ N) {q : jJu} : jVv N q = some (if jF2 q = 0 then (jB1 q, 0) else ([], jF2 q)) := by
 unfold jVv
 rw [jR8 hN, bS, jYl]
 by_cases h : jF2 q = 0
 ·rw [dT h, if_pos h, jP9 (by omega) h]; rfl
 ·rw [dF h, if_neg h]; rfl
theorem jA3 {α : Type} {l : List α} (h : 2 ≤ l.length) : slc l (2 : Int) (l.length : Int) = some (l.drop 2) := by
 unfold slc
 rw [dT (by omega), dT (by omega), dT (by omega)]; simp
theorem parse_any {N : Nat} (hN : 2000 ≤ N) {s : Str} (hs : s.length ≤ 100000) : ∃ r, jXr N s = some r ∧ (r.2 = 0 → jF2 r.1 = 0 ∧ jB1 r.1 = s) := by
  unfold jXr
  rw [jAf (by omega), bS]
  have hlen := qWs s
  have hcnt : (jMf 32 s).length ≤ s.length + 1 := by
    clear hlen
    induction s with
    | nil => simp [jMf]
    | cons b r ih =>
      have hr : r.length ≤ 100000 := by simp at hs; omega
      have := ih hr
      rw [jMf]
      split
      · simp; omega
      · cases h : jMf 32 r with
        | nil => simp
        | cons x l => rw [h] at this; simp at this ⊢; omega
  generalize jMf 32 s = ws at *
  have hno : ∀ x : jJu × Int, x.2 = 7 → x.2 = 0 → jF2 x.1 = 0 ∧ jB1 x.1 = s := fun x h1 h2 => by rw [h1] at h2; cases h2
  by_cases h2 : (ws.length : Int) < 2
  · rw [jQa, dT h2]; exact ⟨_, rfl, hno _ rfl⟩
  · have i0 : idx ws (0 : Int) = some (ws[0]'(by omega)) := jKl (i := 0) (by omega)
    have i1 : idx ws (1 : Int) = some (ws[1]'(by omega)) := jKl (i := 1) (by omega)
    rw [jQa, dF h2, cnF, i0, bS]
    obtain ⟨d, hd⟩ := jNf (w := ws[0]'(by omega)) (by have := hlen _ (List.getElem_mem (show 0 < ws.length by omega)); omega)
    unfold jVn jYh
    rw [hd, bS, bS, i1, bS]
    obtain ⟨r, hr, hr1, hr2, _⟩ := qYt (N := N) (l := wdsL) (x := ws[1]'(by omega)) (by decide) hN
    rw [show jQ8 N [([111, 114, 100, 101, 114] : Str), ([105, 116, 101, 109] : Str), ([103, 114, 111, 119, 116, 104] : Str), ([99, 104, 97, 114, 103, 101] : Str), ([115, 105, 103, 110] : Str), ([97, 109, 101, 110, 100] : Str), ([105, 110, 118, 111, 105, 99, 101] : Str), ([112, 97, 121] : Str), ([119, 105, 116, 104, 100, 114, 97, 119] : Str)] ws[1] = some r from hr, bS]
    cases hb : d.2 with
    | true => exact ⟨_, rfl, hno _ rfl⟩
    | false =>
      rw [Bool.false_or, jQa]
      by_cases hrn : r < 0
      · rw [dT hrn]; exact ⟨_, rfl, hno _ rfl⟩
      · rw [dF hrn, cnF, jBb, bS, jYl, jDb (by omega) (by omega)]
        dsimp only
        by_cases hfl : ((fl r).length : Int) = (ws.length : Int) - 2
        · rw [dT hfl, jA3 (by omega)]
          simp only [Bool.not_true, cnF, bS]
          have hl4 := jFh (o := r)
          obtain ⟨o, ho, hp⟩ := jUx (f := jQc N (fl r) (ws.drop 2)) (fun t => ∃ (i : Nat) (q : jJu), t = (z0P, (i : Int), q) ∧ i ≤ (ws.drop 2).length) (fun t => (ws.drop 2).length - t.2.1.toNat) (fun o => match o with | .inl _ => True | .inr x => x.1 = z0P ∧ x.2.1 = 7) (by
            rintro t ⟨i, q, rfl, hi⟩
            by_cases hlt : i < (ws.drop 2).length
            · have hvl : (fl r).length = (ws.drop 2).length := by rw [List.length_drop]; omega
              rcases ps_any (N := N) (r0 := z0P) (q := q) hlt hvl (qQg _ (by rw [jRg (by omega)]; exact List.getElem_mem _)) (by
                rw [jRg hlt]
                have := hlen _ (List.mem_of_mem_drop (List.getElem_mem hlt))
                omega) hl4 with ⟨q', e⟩ | e
              · exact .inl ⟨_, e, ⟨i + 1, q', rfl, by omega⟩, by dsimp only; omega⟩
              · exact .inr ⟨_, e, rfl, rfl⟩
            · right
              refine ⟨.inl (z0P, q), ?_, trivial⟩
              unfold jQc
              dsimp only
              rw [jQa, dF (by omega), cnF]) N (z0P, 0, ⟨r, d.1, [], [], [], [], 0, 0, 0⟩) ⟨0, _, rfl, by omega⟩ (by dsimp only; rw [List.length_drop]; omega)
          rw [ho, bS]
          cases o with
          | inl l =>
            show ∃ r, ((jVv N l.2).bind _) = some r ∧ _
            rw [jSp (by omega), bS]
            by_cases hc : jF2 l.2 = 0
            · rw [if_pos hc]
              dsimp only
              rw [jYl, jH3, dT rfl]
              by_cases ht : jB1 l.2 = s
              · rw [dT ht]; exact ⟨_, rfl, fun _ => ⟨hc, ht⟩⟩
              · rw [dF ht]; exact ⟨_, rfl, hno _ rfl⟩
            · rw [if_neg hc]
              dsimp only
              rw [jYl, dF hc]; exact ⟨_, rfl, hno _ rfl⟩
          | inr x => exact ⟨_, rfl, hno _ hp.2⟩
        · rw [dF hfl]; exact ⟨_, rfl, hno _ rfl⟩
theorem qVb {N : Nat} (hN : 2000 ≤ N) {p : jJu} (h : Okp Nm p) : jXr N (jB1 p) = some (p, 0) := by
 have hcl := jS7 h
 have hc : jF2 p = 0 := by rw [jP5, hcl]; exact h
 obtain ⟨h1, h2, h3⟩ := jNq.1 hc
 have hl4 := jFh (o := p.Op)
 unfold jXr
 rw [jAf (by have := jR5 hc; omega), qXb hc, bS]
 have hw : (jSk p).length = (fl p.Op).length + 2 := by unfold jSk; simp
 rw [jQa, dF (by omega), cnF, show idx (jSk p) 0 = some (Lib.itoa p.Day) from rfl, bS]
 unfold jVn jYh
 rw [jLs (by omega), bS, bS, show idx (jSk p) 1 = some (wd p.Op) from rfl, bS]
 rw [show jQ8 N [([111, 114, 100, 101, 114] : Str), ([105, 116, 101, 109] : Str), ([103, 114, 111, 119, 116, 104] : Str), ([99, 104, 97, 114, 103, 101] : Str), ([115, 105, 103, 110] : Str), ([97, 109, 101, 110, 100] : Str), ([105, 110, 118, 111, 105, 99, 101] : Str), ([112, 97, 121] : Str), ([119, 105, 116, 104, 100, 114, 97, 119] : Str)] (wd p.Op) = some p.Op from qWf hN h1, bS]
 dsimp only
 rw [jQa, dF (show ¬ p.Op < 0 by omega)]
 simp only [Bool.or_self, cnF]
 rw [jBb, bS, jYl, jDb (by omega) (by omega)]
 dsimp only
 rw [dT (show ((fl p.Op).length : Int) = ((jSk p).length : Int) - 2 by omega), jA3 (by omega)]
 simp only [Bool.not_true, cnF, bS]
 have hd : (jSk p).drop 2 = (fl p.Op).map (sh p) := rfl
 rw [hd]
 have := jTb (n := (fl p.Op).length) (N := N) (f := jQc N (fl p.Op) ((fl p.Op).map (sh p))) (e := fun _ => 0) (fin := .inl (z0P, (fl p.Op).foldl (qVm p) ⟨p.Op, p.Day, [], [], [], [], 0, 0, 0⟩)) (err := fun _ => .inl (p, p)) (fun i => (z0P, (i : Int), ((fl p.Op).take i).foldl (qVm p) ⟨p.Op, p.Day, [], [], [], [], 0, 0, 0⟩)) (fun i hi _ => by
   have hm : (fl p.Op)[i]! ∈ fl p.Op := by rw [jRg hi]; exact List.getElem_mem _
   rw [if_pos rfl, ps_own (p := p) (by rw [List.length_map]; exact hi) (by rw [List.length_map]) (qQg _ hm) (qU4 _ hm) (h3 _ hm) (by rw [jRg (by rw [List.length_map]; exact hi), jRg hi, List.getElem_map]) hl4, jSa hi]) (by
   intro _
   unfold jQc
   dsimp only
   rw [List.length_map, jQa, dF (by omega), cnF, List.take_length]) (by omega)
 have h0 : (((fl p.Op).take 0).foldl (qVm p) (⟨p.Op, p.Day, [], [], [], [], 0, 0, 0⟩ : jJu)) = ⟨p.Op, p.Day, [], [], [], [], 0, 0, 0⟩ := rfl
 rw [h0] at this
 rw [show ((0 : Nat) : Int) = 0 from rfl] at this
 rw [this, jMg, bS]
 unfold jRp
 rw [if_pos rfl]
 have hq : (fl p.Op).foldl (qVm p) ⟨p.Op, p.Day, [], [], [], [], 0, 0, 0⟩ = p := by
  refine Eq.trans ?_ hcl
  clear this h0 hd hw hc h2 h3 hcl h hl4
  obtain ⟨o, d, a, b, c, e, f, g, i⟩ := p
  dsimp only at h1 ⊢
  rcases jF8 h1 with rfl | rfl | rfl | rfl | rfl | rfl | rfl | rfl | rfl <;> rfl
 rw [hq]
 show ((jVv N p).bind _) = _
 rw [jSp (by omega), if_pos hc, bS]
 dsimp only
 rw [jYl, jH3, dT rfl, dT rfl]; rfl
end Go.KB
namespace Go.KB
set_option linter.unusedVariables false
theorem slcN {α : Type} {l : List α} {a b : Nat} (h : a ≤ b) (hb : b ≤ l.length) : slc l (a : Int) (b : Int) = some ((l.take b).drop a) := by
 unfold slc
 rw [dT (by omega), dT (by omega), dT (by omega)]; simp
theorem findx {N : Nat} {s : Str} (h : s.length ≤ 1000000) : jY3 N s ([10] : Str) = some (Lib.index s [10]) := by
 unfold jY3 qJh
 rw [show Nat.blt s.length 4294967281 = true by rw [Nat.blt_eq]; omega]; rfl
theorem index2 {rest : Str} : ∀ (x : Str), (∀ b ∈ x, b ≠ (35 : UInt8)) → Lib.index (x ++ 32 :: 35 :: rest) [32, 35] = (x.length : Int) := by
 intro x
 induction x with
 | nil => intro _; rw [List.nil_append, Lib.index]; simp [List.isPrefixOf]
 | cons b x ih =>
  intro h
  have h1 : ([32, 35] : Str).isPrefixOf (b :: (x ++ 32 :: 35 :: rest)) = false := by
   cases x with
   | nil => simp [List.isPrefixOf]
   | cons c x =>
    have hc : c ≠ 35 := h c (by simp)
    simp [List.isPrefixOf]
    intro _ e
    exact hc e.symm
  rw [List.cons_append, Lib.index, h1, ih fun y hy => h y (List.mem_cons_of_mem _ hy)]
  have : ((x.length : Int) == -1) = false := by rw [beq_eq_false_iff_ne]; omega
  rw [this]
  simp
theorem qY6 {N : Nat} {y : Str} (h : y.length ≤ 1000000) : jYy N y ([32, 35] : Str) = some (Lib.cut y [32, 35]) ∧ (Lib.cut y [32, 35]).1.length ≤ y.length := by
 constructor
 ·unfold jYy cutP
  rw [show Nat.blt y.length 4294967281 = true by rw [Nat.blt_eq]; omega]; rfl
 ·unfold Lib.cut
  split
  ·dsimp only; rw [List.length_take]; omega
  ·exact Nat.le_refl _
theorem qY8 {p : jJu} (h : jF2 p = 0) {c : UInt8} (h1 : c ≠ 32) (h2 : c.toNat < 45) : ∀ b ∈ jB1 p, b ≠ c := fun b hb e => by
 rcases qWk h b hb with hb | hb
 ·exact h1 (e ▸ hb)
 ·rw [e] at hb; omega
theorem qV0 {N : Nat} {p : jJu} {a : Int} (h : jF2 p = 0) (ha : 0 ≤ a ∧ a < 65521) : ∃ r, jYy N (lnT p a ++ [10]) ([32, 35] : Str) = some r ∧ r.1 = jB1 p := by
 have hl := jN3 h ha
 refine ⟨_, (qY6 (N := N) (y := lnT p a ++ [10]) (by rw [List.length_append, List.length_singleton]; omega)).1, ?_⟩
 have e : lnT p a ++ [10] = jB1 p ++ 32 :: 35 :: (Lib.itoa (cks a (jB1 p)) ++ [10]) := by unfold lnT; simp
 unfold Lib.cut
 rw [e, index2 _ (qY8 h (by decide) (by decide)), if_pos (by omega)]
 dsimp only
 rw [Int.toNat_natCast, List.take_left]
theorem ln_no {p : jJu} {a : Int} (h : jF2 p = 0) : ∀ b ∈ lnT p a, b ≠ (10 : UInt8) := by
 intro b hb
 unfold lnT at hb
 rw [List.mem_append, List.mem_cons, List.mem_cons] at hb
 rcases hb with hb | rfl | rfl | hb
 ·exact qY8 h (by decide) (by decide) b hb
 ·decide
 ·decide
 ·exact qUw (by decide) b hb
section
variable {N : Nat} {g0 : jJj} {o : List (Str × Int)} {it : List (jJz × Int)} {gn : List (Int × Bool)} {m : List jJu}
theorem qZ7 (B : jGb g0 o it gn m) (v : Vl Nm m) (hl : m.length ≤ 400) (hN : 2000 ≤ N) {p : jJu} (hp : Okp Nm p) (hA : okA m p) {at_ : Nat} {a : Int} (ha : 0 ≤ a ∧ a < 65521) (hat : at_ ≤ 1000000) :
    ∃ g' o' it' gn', jQx N (g0, o, it, gn, (at_ : Int), a) (lnT p a ++ [10]) = some ((g', o', it', gn', ((at_ + (lnT p a ++ [10]).length : Nat) : Int), cks a (jB1 p)), none) ∧ jGb g' o' it' gn' (m ++ [p]) := by
  have hcl := jS7 hp
  have hc : jF2 p = 0 := by rw [jP5, hcl]; exact hp
  obtain ⟨r, hr, hr1⟩ := qV0 (N := N) hc ha
  obtain ⟨g', o', it', gn', n, e, hpost, hcase⟩ := post_eq (N := N) B v hl hN p
  have hlen := jN3 hc ha
  rcases hcase with ⟨_, rfl, _, B'⟩ | ⟨hno, _⟩
  · refine ⟨g', o', it', gn', ?_, by rw [hcl] at B'; exact B'⟩
    unfold jQx
    rw [hr, bS, hr1, qVb hN hp, bS]
    dsimp only
    rw [jYl, dT rfl]
    simp only [Bool.not_true, cnF]
    rw [jCb hN hc ha, bS]
    dsimp only
    rw [jH3, dT rfl]
    simp only [Bool.not_true, cnF]
    rw [hpost, bS]
    dsimp only
    rw [jYl, dT rfl]
    simp only [Bool.not_true, cnF]
    have hl2 : (lnT p a ++ [10]).length ≤ 114 := by rw [List.length_append, List.length_singleton]; omega
    rw [jDb (by omega) (by omega), Int.natCast_add]
  · exact absurd hA hno
theorem qXd (hN : 2000 ≤ N) {y : Str} (hy : ∀ b ∈ y, b ≠ (10 : UInt8)) (hl : y.length ≤ 100000) {at_ a : Int} (ha : 0 ≤ a ∧ a < 65521) :
  jQx N (g0, o, it, gn, at_, a) y = some ((g0, o, it, gn, at_, a), some 0) := by
 unfold jQx
 obtain ⟨h1, h2⟩ := qY6 (N := N) (y := y) (by omega)
 rw [h1, bS]
 obtain ⟨r, hr, hc⟩ := parse_any (N := N) hN (s := (Lib.cut y [32, 35]).1) (by omega)
 rw [hr, bS, jYl]
 by_cases hz : r.2 = 0
 ·rw [dT hz]
  simp only [Bool.not_true, cnF]
  rw [jCb hN (hc hz).1 ha, bS]
  dsimp only
  rw [jH3, dF]
  ·rfl
  ·intro e
   exact hy 10 (by rw [e]; simp) rfl
 ·rw [dF hz]; rfl
theorem qKn (hN : 2000 ≤ N) : ∀ {l : List jJu} {m : List jJu} {y : Str} {g0 : jJj} {o : List (Str × Int)} {it : List (jJz × Int)} {gn : List (Int × Bool)} {at_ : Nat} {a : Int} (M : Nat), jGb g0 o it gn m → Vl Nm (m ++ l) → (m ++ l).length ≤ 400 → 0 ≤ a ∧ a < 65521 → at_ + 114 * l.length ≤ 100000 → (unj (jl a l) ++ y).length ≤ 100000 → (∀ b ∈ y, b ≠ (10 : UInt8)) → l.length < M →
  ∃ g' o' it' gn', jZw (jQ7 N (yl (jQx N) 1) ([10] : Str) (([10] : Str).length : Int)) M (((g0, o, it, gn, (at_ : Int), a), none), unj (jl a l) ++ y) = some (.inl (((g', o', it', gn', ((at_ + (unj (jl a l)).length : Nat) : Int), sm a l), none), y)) ∧ jGb g' o' it' gn' (m ++ l) := by
 intro l
 induction l with
 | nil =>
  intro m y g0 o it gn at_ a M B v hl ha hat hlen hy hM
  obtain ⟨M, rfl⟩ : ∃ k, M = k + 1 := ⟨M - 1, by omega⟩
  have ei : jY3 N y ([10] : Str) = some (-1) := by
   rw [findx (by simp [unj, jl] at hlen; omega), qWm y hy]
  refine ⟨g0, o, it, gn, ?_, by rw [List.append_nil]; exact B⟩
  rw [jZw]
  unfold jQ7
  simp only []
  rw [show unj (jl a []) ++ y = y from rfl, ei, bS, jQa, dT (by decide), cnT]
  rfl
 | cons p l ih =>
  intro m y g0 o it gn at_ a M B v hl ha hat hlen hy hM
  obtain ⟨M, rfl⟩ : ∃ k, M = k + 1 := ⟨M - 1, by omega⟩
  obtain ⟨hp, href, hday⟩ := v m p l rfl
  have hcl := jS7 hp
  have hc : jF2 p = 0 := by rw [jP5, hcl]; exact hp
  have vm : Vl Nm m := Vl.left v
  simp only [List.length_append, List.length_cons] at hl hat hM
  have hA : okA m p := ⟨by rw [hcl]; exact hp, by omega, hday, href⟩
  have hln := jN3 hc ha
  obtain ⟨g', o', it', gn', hr, B'⟩ := qZ7 (N := N) B vm (by omega) hN hp hA (at_ := at_) ha (by omega)
  have ec : unj (jl a (p :: l)) ++ y = (lnT p a ++ [10]) ++ (unj (jl (cks a (jB1 p)) l) ++ y) := by rw [jl, unj]; simp
  rw [ec] at hlen ⊢
  have hlx : (lnT p a ++ [10]).length = (lnT p a).length + 1 := by simp
  have ei : jY3 N ((lnT p a ++ [10]) ++ (unj (jl (cks a (jB1 p)) l) ++ y)) ([10] : Str) = some ((lnT p a).length : Int) := by
   rw [findx (by omega)]
   have : (lnT p a ++ [10]) ++ (unj (jl (cks a (jB1 p)) l) ++ y) = lnT p a ++ 10 :: (unj (jl (cks a (jB1 p)) l) ++ y) := by simp
   rw [this, jC0 _ (ln_no hc)]
  have ew : IntKind.i64.wrap (((lnT p a).length : Int) + (([10] : Str).length : Int)) = (((lnT p a ++ [10]).length : Nat) : Int) := by
   rw [hlx, show (([10] : Str).length : Int) = 1 from rfl, jDb (by omega) (by omega)]; omega
  have hY : yl (jQx N) 1 ((g0, o, it, gn, (at_ : Int), a), none) (lnT p a ++ [10]) = some (((g', o', it', gn', ((at_ + (lnT p a ++ [10]).length : Nat) : Int), cks a (jB1 p)), none), true) := by
   unfold yl
   simp only []
   rw [hr]
  generalize lnT p a ++ [10] = X at *
  have e : jQ7 N (yl (jQx N) 1) ([10] : Str) (([10] : Str).length : Int) (((g0, o, it, gn, (at_ : Int), a), none), X ++ (unj (jl (cks a (jB1 p)) l) ++ y)) = some (.inl (((g', o', it', gn', ((at_ + X.length : Nat) : Int), cks a (jB1 p)), none), unj (jl (cks a (jB1 p)) l) ++ y)) := by
   unfold jQ7
   simp only []
   rw [ei, bS, jQa, dF (by omega), cnF, ew, show (0 : Int) = ((0 : Nat) : Int) from rfl, slcN (by omega) (by rw [List.length_append]; omega), bS, List.take_left, List.drop_zero, hY, bS]
   simp only [Bool.not_true, cnF]
   rw [slcN (by rw [List.length_append]; omega) (Nat.le_refl _), List.take_length, List.drop_left, bS]
  obtain ⟨g2, o2, it2, gn2, h1, h2⟩ := ih (m := m ++ [p]) (y := y) (at_ := at_ + X.length) (a := cks a (jB1 p)) M B' (by rw [List.append_assoc]; exact v) (by simp only [List.length_append, List.length_cons, List.length_nil]; omega) (jNd ha) (by omega) (by rw [List.length_append] at hlen; omega) hy (by omega)
  refine ⟨g2, o2, it2, gn2, ?_, by rw [List.append_assoc] at h2; exact h2⟩
  rw [jZw, e]
  simp only []
  rw [h1, sm, jl, unj]
  have hf : (lnT p a ++ 10 :: unj (jl (cks a (jB1 p)) l)).length = X.length + (unj (jl (cks a (jB1 p)) l)).length := by rw [hlx]; simp; omega
  rw [hf, Nat.add_assoc]
theorem qQz (hN : 2000 ≤ N) {y : Str} (v : Vl Nm m) (hl : m.length ≤ 400) (hlen : (unj (jl 1 m) ++ y).length ≤ 100000) (hy : ∀ b ∈ y, b ≠ (10 : UInt8)) :
  ∃ g o it gn, jYw N (unj (jl 1 m) ++ y) = some (some (g, o, it, gn), ((unj (jl 1 m)).length : Int)) ∧ jGb g o it gn m := by
 unfold jYw jYn
 obtain ⟨g, o, it, gn, h1, h2⟩ := qKn (N := N) hN (l := m) (m := []) (y := y) (at_ := 0) (a := 1) N qYn v hl ⟨by decide, by decide⟩ (by omega) hlen hy (by omega)
 refine ⟨g, o, it, gn, ?_, h2⟩
 rw [bS]
 unfold jMd
 dsimp only
 unfold jWb
 have h1 : jZw (jQ7 N (yl (jQx N) 1) ([10] : Str) (([10] : Str).length : Int)) N ((((⟨[]⟩ : jJj), [], [], [], (0 : Int), (1 : Int)), none), unj (jl 1 m) ++ y) = _ := h1
 rw [jV1, dF (by decide), cnF, h1, bS]
 have hb := qUl (l := m) (a := 1) ⟨by decide, by decide⟩
 have hY : yl (jQx N) 1 ((g, o, it, gn, ((0 + (unj (jl 1 m)).length : Nat) : Int), sm 1 m), none) y = some (((g, o, it, gn, ((0 + (unj (jl 1 m)).length : Nat) : Int), sm 1 m), some 0), false) := by
  unfold yl
  simp only []
  rw [qXd hN hy (by rw [List.length_append] at hlen; omega) hb]
  rfl
 show ((yl (jQx N) 1 ((g, o, it, gn, ((0 + (unj (jl 1 m)).length : Nat) : Int), sm 1 m), none) y).bind _).bind _ = _
 rw [hY, bS, bS]
 unfold jRj
 dsimp only
 rw [dT rfl, cnT, Nat.zero_add]
end
end Go.KB
