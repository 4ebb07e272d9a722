/- Lists whose elements change places. Blocks change places: the library's swapRange and rotate. The library's symMerge: binary searches, shifts by one. The library's symMerge merges, stably: the plain part. The library's symMerge merges, stably. No condition. -/
import Derived.Test.YtmhjgjflmemjmaaPZa
namespace Go.KB
set_option linter.unusedVariables false
section
variable {α : Type} [Inhabited α]
def permI (L : List α) (f : Nat → Nat) : List α := (List.range L.length).map fun k => L[f k]!
theorem permI_len (L : List α) (f : Nat → Nat) : (permI L f).length = L.length := by unfold permI; simp
theorem permI_get {L : List α} {f : Nat → Nat} {k : Nat} (h : k < L.length) : (permI L f)[k]! = L[f k]! := by
 rw [bang (by rw [permI_len]; exact h)]
 unfold permI
 rw [List.getElem_map, List.getElem_range]
theorem list_ext {L M : List α} (hl : L.length = M.length) (h : ∀ k, k < L.length → L[k]! = M[k]!) : L = M := by
 refine List.ext_getElem hl fun k h1 h2 => ?_
 rw [← bang h1, ← bang h2]; exact h k h1
theorem permI_comp {L : List α} {f g : Nat → Nat} (hg : ∀ k, k < L.length → g k < L.length) : permI (permI L f) g = permI L (fun k => f (g k)) := by
 refine list_ext (by simp only [permI_len]) fun k hk => ?_
 rw [permI_len, permI_len] at hk
 rw [permI_get (by rw [permI_len]; exact hk), permI_get (hg k hk), permI_get hk]
theorem permI_congr {L : List α} {f g : Nat → Nat} (h : ∀ k, k < L.length → f k = g k) : permI L f = permI L g := by
 refine list_ext (by simp only [permI_len]) fun k hk => ?_
 rw [permI_len] at hk
 rw [permI_get hk, permI_get hk, h k hk]
theorem permI_id (L : List α) : permI L (fun k => k) = L := list_ext (permI_len _ _) fun k hk => by rw [permI_len] at hk; exact permI_get hk
theorem set_bang {L : List α} {i k : Nat} {x : α} (hk : k < L.length) : (L.set i x)[k]! = if i = k then x else L[k]! := by
 rw [bang (by rw [List.length_set]; exact hk), List.getElem_set]
 by_cases h : i = k
 ·rw [if_pos h, if_pos h]
 ·rw [if_neg h, if_neg h, bang hk]
def swI (a b n k : Nat) : Nat := if a ≤ k ∧ k < a + n then b + (k - a) else if b ≤ k ∧ k < b + n then a + (k - b) else k
def rotI (a m b k : Nat) : Nat := if a ≤ k ∧ k < a + (b - m) then m + (k - a) else if a + (b - m) ≤ k ∧ k < b then a + (k - (a + (b - m))) else k
theorem swI_cases (a b n k : Nat) : (a ≤ k ∧ k < a + n ∧ swI a b n k = b + (k - a)) ∨ (¬(a ≤ k ∧ k < a + n) ∧ b ≤ k ∧ k < b + n ∧ swI a b n k = a + (k - b)) ∨ (¬(a ≤ k ∧ k < a + n) ∧ ¬(b ≤ k ∧ k < b + n) ∧ swI a b n k = k) := by
 unfold swI
 by_cases h : a ≤ k ∧ k < a + n
 ·rw [if_pos h]; exact .inl ⟨h.1, h.2, rfl⟩
 ·rw [if_neg h]
  by_cases h2 : b ≤ k ∧ k < b + n
  ·rw [if_pos h2]; exact .inr (.inl ⟨h, h2.1, h2.2, rfl⟩)
  ·rw [if_neg h2]; exact .inr (.inr ⟨h, h2, rfl⟩)
theorem rotI_cases (a m b k : Nat) : (a ≤ k ∧ k < a + (b - m) ∧ rotI a m b k = m + (k - a)) ∨ (¬(a ≤ k ∧ k < a + (b - m)) ∧ a + (b - m) ≤ k ∧ k < b ∧ rotI a m b k = a + (k - (a + (b - m)))) ∨ (¬(a ≤ k ∧ k < a + (b - m)) ∧ ¬(a + (b - m) ≤ k ∧ k < b) ∧ rotI a m b k = k) := by
 unfold rotI
 by_cases h : a ≤ k ∧ k < a + (b - m)
 ·rw [if_pos h]; exact .inl ⟨h.1, h.2, rfl⟩
 ·rw [if_neg h]
  by_cases h2 : a + (b - m) ≤ k ∧ k < b
  ·rw [if_pos h2]; exact .inr (.inl ⟨h, h2.1, h2.2, rfl⟩)
  ·rw [if_neg h2]; exact .inr (.inr ⟨h, h2, rfl⟩)
theorem swI_step {L : List α} {a b i : Nat} (hab : a + (i + 1) ≤ b) (hb : b + (i + 1) ≤ L.length) : ((permI L (swI a b i)).set (a + i) (permI L (swI a b i))[b + i]!).set (b + i) (permI L (swI a b i))[a + i]! = permI L (swI a b (i + 1)) := by
 refine list_ext (by simp only [List.length_set, permI_len]) fun k hk => ?_
 rw [List.length_set, List.length_set, permI_len] at hk
 rw [set_bang (by rw [List.length_set, permI_len]; exact hk), set_bang (by rw [permI_len]; exact hk), permI_get (by omega), permI_get (by omega), permI_get hk, permI_get hk]
 have h1 := swI_cases a b i (a + i)
 have h2 := swI_cases a b i (b + i)
 have h3 := swI_cases a b i k
 have h4 := swI_cases a b (i + 1) k
 by_cases e : b + i = k
 ·rw [if_pos e]
  congr 1; omega
 ·rw [if_neg e]
  by_cases e2 : a + i = k
  ·rw [if_pos e2]
   congr 1; omega
  ·rw [if_neg e2]
   congr 1; omega
theorem rot_lt_len {a m b k n : Nat} (h1 : a ≤ m) (h2 : m ≤ b) (h3 : b ≤ n) (hk : k < n) : rotI a m b k < n := by
 have := rotI_cases a m b k
 omega
theorem rot_gt {L : List α} {m i j : Nat} (hi : i ≤ m) (hj : m + j ≤ L.length) (h : j < i) : permI (permI L (swI (m - i) m j)) (rotI (m - (i - j)) m (m + j)) = permI L (rotI (m - i) m (m + j)) := by
 rw [permI_comp fun k hk => rot_lt_len (by omega) (by omega) hj hk]
 refine permI_congr fun k hk => ?_
 have h1 := rotI_cases (m - (i - j)) m (m + j) k
 have h2 := rotI_cases (m - i) m (m + j) k
 have h3 := swI_cases (m - i) m j (rotI (m - (i - j)) m (m + j) k)
 omega
theorem rot_lt {L : List α} {m i j : Nat} (hi : i ≤ m) (hj : m + j ≤ L.length) (h : i < j) : permI (permI L (swI (m - i) (m + j - i) i)) (rotI (m - i) m (m + (j - i))) = permI L (rotI (m - i) m (m + j)) := by
 rw [permI_comp fun k hk => rot_lt_len (by omega) (by omega) (by omega) hk]
 refine permI_congr fun k hk => ?_
 have h1 := rotI_cases (m - i) m (m + (j - i)) k
 have h2 := rotI_cases (m - i) m (m + j) k
 have h3 := swI_cases (m - i) (m + j - i) i (rotI (m - i) m (m + (j - i)) k)
 omega
theorem rot_eq {L : List α} {m i : Nat} (hi : i ≤ m) (hj : m + i ≤ L.length) : permI L (swI (m - i) m i) = permI L (rotI (m - i) m (m + i)) := by
 refine permI_congr fun k hk => ?_
 have h1 := rotI_cases (m - i) m (m + i) k
 have h2 := swI_cases (m - i) m i k
 omega
end
end Go.KB
namespace Go.KB
set_option linter.unusedVariables false
instance : Inhabited Gsurvey_leaf := ⟨⟨0, false, ⟨0, 0, 0, 0⟩⟩⟩
abbrev CmpL := Gsurvey_leaf → Gsurvey_leaf → Option Int
theorem swap_eq {N : Nat} {L : List Gsurvey_leaf} {a b n : Nat} {φ : CmpL} (hab : a + n ≤ b) (hb : b + n ≤ L.length) (hL : L.length < 1000000) (hN : 1000000 ≤ N) : f_slices_swapRangeCmpFuncsurvey_leaf N L (a : Int) (b : Int) (n : Int) φ = some (permI L (swI a b n)) := by
 have hstep : ∀ i, i < n → f_slices_swapRangeCmpFuncsurvey_leaf_L1 N (a : Int) (b : Int) (n : Int) (permI L (swI a b i), (i : Int)) = some (.inl (permI L (swI a b (i + 1)), ((i + 1 : Nat) : Int))) := by
  intro i hi
  have hl := permI_len L (swI a b i)
  unfold f_slices_swapRangeCmpFuncsurvey_leaf_L1
  simp only []
  rw [cmp_lss, dT (by omega), cnT, show (b : Int) + (i : Int) = ((b + i : Nat) : Int) by omega, show (a : Int) + (i : Int) = ((a + i : Nat) : Int) by omega, w64i (n := ((b + i : Nat) : Int)) (by omega) (by omega), w64i (n := ((a + i : Nat) : Int)) (by omega) (by omega), idxB (by omega), bS, idxB (by omega), bS, bS, Int.toNat_natCast, Int.toNat_natCast, idxB (by rw [List.length_set]; omega), bS, w64s (by omega), swI_step (by omega) (by omega)]
 have hend : f_slices_swapRangeCmpFuncsurvey_leaf_L1 N (a : Int) (b : Int) (n : Int) (permI L (swI a b n), (n : Int)) = some (.inr (permI L (swI a b n))) := by
  unfold f_slices_swapRangeCmpFuncsurvey_leaf_L1
  simp only []
  rw [cmp_lss, dF (by omega), cnF]
 have h0 : permI L (swI a b 0) = L := by
  rw [permI_congr (g := fun k => k) fun k hk => ?_, permI_id]
  have := swI_cases a b 0 k
  omega
 unfold f_slices_swapRangeCmpFuncsurvey_leaf
 have := loopN_fold (f := f_slices_swapRangeCmpFuncsurvey_leaf_L1 N (a : Int) (b : Int) (n : Int)) n (fun i => permI L (swI a b i)) (permI L (swI a b n)) hstep hend N (by omega)
 simp only [h0] at this
 rw [this]; rfl
theorem rot_loop {N : Nat} {m : Nat} {φ : CmpL} (hN : 1000000 ≤ N) : ∀ (w : Nat) (D : List Gsurvey_leaf) (i j : Nat), i + j ≤ w → 0 < i → 0 < j → i ≤ m → m + j ≤ D.length → D.length < 1000000 → ∀ M, w < M →
  ∃ (D' : List Gsurvey_leaf) (k : Nat), loopN (f_slices_rotateCmpFuncsurvey_leaf_L1 N (m : Int) φ) M (D, (i : Int), (j : Int)) = some (D', (k : Int)) ∧ 0 < k ∧ k ≤ m ∧ m + k ≤ D.length ∧ D'.length = D.length ∧ permI D' (rotI (m - k) m (m + k)) = permI D (rotI (m - i) m (m + j)) := by
 intro w
 induction w with
 | zero => intro D i j h h1; omega
 | succ w ih =>
  intro D i j hw h1 h2 h3 h4 h5 M hM
  obtain ⟨M, rfl⟩ : ∃ x, M = x + 1 := ⟨M - 1, by omega⟩
  by_cases e : i = j
  ·subst e
   refine ⟨D, i, ?_, h1, h3, h4, rfl, rfl⟩
   have : f_slices_rotateCmpFuncsurvey_leaf_L1 N (m : Int) φ (D, (i : Int), (i : Int)) = some (.inr (D, (i : Int))) := by
    unfold f_slices_rotateCmpFuncsurvey_leaf_L1
    simp only []
    rw [cmp_neq, dT rfl]; rfl
   rw [loopN, this]
  ·by_cases g : j < i
   ·have hs : f_slices_rotateCmpFuncsurvey_leaf_L1 N (m : Int) φ (D, (i : Int), (j : Int)) = some (.inl (permI D (swI (m - i) m j), ((i - j : Nat) : Int), (j : Int))) := by
     unfold f_slices_rotateCmpFuncsurvey_leaf_L1
     simp only []
     rw [cmp_neq, dF (by omega), Bool.not_false, cnT, cmp_gtr, dT (by omega), cnT, show (m : Int) - (i : Int) = ((m - i : Nat) : Int) by omega, w64i (n := ((m - i : Nat) : Int)) (by omega) (by omega), swap_eq (by omega) (by omega) h5 hN, bS, show (i : Int) - (j : Int) = ((i - j : Nat) : Int) by omega, w64i (n := ((i - j : Nat) : Int)) (by omega) (by omega)]
    obtain ⟨D', k, e1, e2, e3, e4, e5, e6⟩ := ih (permI D (swI (m - i) m j)) (i - j) j (by omega) (by omega) h2 (by omega) (by rw [permI_len]; exact h4) (by rw [permI_len]; exact h5) M (by omega)
    rw [permI_len] at e4 e5
    refine ⟨D', k, by rw [loopN, hs]; exact e1, e2, e3, e4, e5, ?_⟩
    rw [e6, rot_gt h3 h4 g]
   ·have hs : f_slices_rotateCmpFuncsurvey_leaf_L1 N (m : Int) φ (D, (i : Int), (j : Int)) = some (.inl (permI D (swI (m - i) (m + j - i) i), (i : Int), ((j - i : Nat) : Int))) := by
     unfold f_slices_rotateCmpFuncsurvey_leaf_L1
     simp only []
     rw [cmp_neq, dF (by omega), Bool.not_false, cnT, cmp_gtr, dF (by omega), cnF, show (m : Int) - (i : Int) = ((m - i : Nat) : Int) by omega, w64i (n := ((m - i : Nat) : Int)) (by omega) (by omega), show (m : Int) + (j : Int) = ((m + j : Nat) : Int) by omega, w64i (n := ((m + j : Nat) : Int)) (by omega) (by omega), show ((m + j : Nat) : Int) - (i : Int) = ((m + j - i : Nat) : Int) by omega, w64i (n := ((m + j - i : Nat) : Int)) (by omega) (by omega), swap_eq (by omega) (by omega) h5 hN, bS, show (j : Int) - (i : Int) = ((j - i : Nat) : Int) by omega, w64i (n := ((j - i : Nat) : Int)) (by omega) (by omega)]
    obtain ⟨D', k, e1, e2, e3, e4, e5, e6⟩ := ih (permI D (swI (m - i) (m + j - i) i)) i (j - i) (by omega) h1 (by omega) h3 (by rw [permI_len]; omega) (by rw [permI_len]; exact h5) M (by omega)
    rw [permI_len] at e4 e5
    refine ⟨D', k, by rw [loopN, hs]; exact e1, e2, e3, e4, e5, ?_⟩
    rw [e6, rot_lt h3 h4 (by omega)]
theorem rotate_eq {N : Nat} {L : List Gsurvey_leaf} {a m b : Nat} {φ : CmpL} (h1 : a < m) (h2 : m < b) (h3 : b ≤ L.length) (hL : L.length < 1000000) (hN : 2000000 ≤ N) : f_slices_rotateCmpFuncsurvey_leaf N L (a : Int) (m : Int) (b : Int) φ = some (permI L (rotI a m b)) := by
 obtain ⟨D', k, e1, e2, e3, e4, e5, e6⟩ := rot_loop (N := N) (m := m) (φ := φ) (by omega) (b - a) L (m - a) (b - m) (by omega) (by omega) (by omega) (by omega) (by omega) hL N (by omega)
 unfold f_slices_rotateCmpFuncsurvey_leaf
 rw [show (m : Int) - (a : Int) = ((m - a : Nat) : Int) by omega, show (b : Int) - (m : Int) = ((b - m : Nat) : Int) by omega, w64i (n := ((m - a : Nat) : Int)) (by omega) (by omega), w64i (n := ((b - m : Nat) : Int)) (by omega) (by omega), e1, bS]
 simp only []
 rw [show (m : Int) - (k : Int) = ((m - k : Nat) : Int) by omega, w64i (n := ((m - k : Nat) : Int)) (by omega) (by omega), swap_eq (by omega) (by omega) (by omega) (by omega), bS, rot_eq e3 (by omega), e6, show m - (m - a) = a by omega, show m + (b - m) = b by omega]
end Go.KB
namespace Go.KB
set_option linter.unusedVariables false
theorem half_eq {s r : Nat} (h : s + r < 4000000) : shrI .u64 (IntKind.u64.wrap (IntKind.i64.wrap ((s : Int) + (r : Int)))) 1 = some (((s + r) / 2 : Nat) : Int) := by
 rw [show (s : Int) + (r : Int) = ((s + r : Nat) : Int) by omega, w64i (by omega) (by omega), u64i (by omega) (by omega)]
 unfold shrI
 rw [if_neg (by omega)]
 show some (Int.fdiv ((s + r : Nat) : Int) 2) = _
 rw [Int.fdiv_eq_ediv_of_nonneg _ (by omega)]
 congr 1
theorem bin_search {f : (Int × Int) → Option ((Int × Int) ⊕ Int)} {T : Nat → Bool} {lo hi : Nat} (hlt : ∀ s r : Nat, lo ≤ s → s < r → r ≤ hi → f ((s : Int), (r : Int)) = some (.inl (bif T ((s + r) / 2) then ((((s + r) / 2 + 1 : Nat) : Int), (r : Int)) else ((s : Int), (((s + r) / 2 : Nat) : Int))))) (heq : ∀ s : Nat, f ((s : Int), (s : Int)) = some (.inr (s : Int))) :
    ∀ (w s r : Nat), r - s ≤ w → lo ≤ s → s ≤ r → r ≤ hi → (lo < s → T (s - 1) = true) → (r < hi → T r = false) → ∀ M, w < M → ∃ e : Nat, loopN f M ((s : Int), (r : Int)) = some (e : Int) ∧ lo ≤ e ∧ e ≤ hi ∧ (lo < e → T (e - 1) = true) ∧ (e < hi → T e = false) := by
  intro w
  induction w with
  | zero =>
    intro s r h1 h2 h3 h4 h5 h6 M hM
    obtain ⟨M, rfl⟩ : ∃ x, M = x + 1 := ⟨M - 1, by omega⟩
    obtain rfl : s = r := by omega
    exact ⟨s, by rw [loopN, heq], h2, h4, h5, h6⟩
  | succ w ih =>
    intro s r h1 h2 h3 h4 h5 h6 M hM
    obtain ⟨M, rfl⟩ : ∃ x, M = x + 1 := ⟨M - 1, by omega⟩
    by_cases e : s = r
    · subst e
      exact ⟨s, by rw [loopN, heq], h2, h4, h5, h6⟩
    · have hs := hlt s r h2 (by omega) h4
      cases hT : T ((s + r) / 2) with
      | true =>
        rw [hT, cnT] at hs
        obtain ⟨x, hx, k⟩ := ih ((s + r) / 2 + 1) r (by omega) (by omega) (by omega) h4 (fun _ => by rw [Nat.add_sub_cancel]; exact hT) h6 M (by omega)
        exact ⟨x, by rw [loopN, hs]; exact hx, k⟩
      | false =>
        rw [hT, cnF] at hs
        obtain ⟨x, hx, k⟩ := ih s ((s + r) / 2) (by omega) h2 (by omega) (by omega) h5 (fun _ => hT) M (by omega)
        exact ⟨x, by rw [loopN, hs]; exact hx, k⟩
section
variable {α : Type} [Inhabited α]
def upI (a e k : Nat) : Nat := if a ≤ k ∧ k < e then k + 1 else if k = e ∧ a ≤ e then a else k
def dnI (e m k : Nat) : Nat := if e < k ∧ k ≤ m then k - 1 else if k = e ∧ e ≤ m then m else k
theorem upI_cases (a e k : Nat) : (a ≤ k ∧ k < e ∧ upI a e k = k + 1) ∨ (¬(a ≤ k ∧ k < e) ∧ k = e ∧ a ≤ e ∧ upI a e k = a) ∨ (¬(a ≤ k ∧ k < e) ∧ ¬(k = e ∧ a ≤ e) ∧ upI a e k = k) := by
 unfold upI
 by_cases h : a ≤ k ∧ k < e
 ·rw [if_pos h]; exact .inl ⟨h.1, h.2, rfl⟩
 ·rw [if_neg h]
  by_cases h2 : k = e ∧ a ≤ e
  ·rw [if_pos h2]; exact .inr (.inl ⟨h, h2.1, h2.2, rfl⟩)
  ·rw [if_neg h2]; exact .inr (.inr ⟨h, h2, rfl⟩)
theorem dnI_cases (e m k : Nat) : (e < k ∧ k ≤ m ∧ dnI e m k = k - 1) ∨ (¬(e < k ∧ k ≤ m) ∧ k = e ∧ e ≤ m ∧ dnI e m k = m) ∨ (¬(e < k ∧ k ≤ m) ∧ ¬(k = e ∧ e ≤ m) ∧ dnI e m k = k) := by
 unfold dnI
 by_cases h : e < k ∧ k ≤ m
 ·rw [if_pos h]; exact .inl ⟨h.1, h.2, rfl⟩
 ·rw [if_neg h]
  by_cases h2 : k = e ∧ e ≤ m
  ·rw [if_pos h2]; exact .inr (.inl ⟨h, h2.1, h2.2, rfl⟩)
  ·rw [if_neg h2]; exact .inr (.inr ⟨h, h2, rfl⟩)
theorem upI_step {L : List α} {a k : Nat} (ha : a ≤ k) (hk : k + 1 < L.length) : ((permI L (upI a k)).set k (permI L (upI a k))[k + 1]!).set (k + 1) (permI L (upI a k))[k]! = permI L (upI a (k + 1)) := by
 refine list_ext (by simp only [List.length_set, permI_len]) fun i hi => ?_
 rw [List.length_set, List.length_set, permI_len] at hi
 rw [set_bang (by rw [List.length_set, permI_len]; exact hi), set_bang (by rw [permI_len]; exact hi), permI_get (by omega), permI_get (by omega), permI_get hi, permI_get hi]
 have h1 := upI_cases a k (k + 1)
 have h2 := upI_cases a k k
 have h3 := upI_cases a k i
 have h4 := upI_cases a (k + 1) i
 by_cases e : k + 1 = i
 ·rw [if_pos e]; congr 1; omega
 ·rw [if_neg e]
  by_cases e2 : k = i
  ·rw [if_pos e2]; congr 1; omega
  ·rw [if_neg e2]; congr 1; omega
theorem dnI_step {L : List α} {k m : Nat} (hk : 0 < k) (hm : k ≤ m) (hl : m < L.length) : ((permI L (dnI k m)).set k (permI L (dnI k m))[k - 1]!).set (k - 1) (permI L (dnI k m))[k]! = permI L (dnI (k - 1) m) := by
 refine list_ext (by simp only [List.length_set, permI_len]) fun i hi => ?_
 rw [List.length_set, List.length_set, permI_len] at hi
 rw [set_bang (by rw [List.length_set, permI_len]; exact hi), set_bang (by rw [permI_len]; exact hi), permI_get (by omega), permI_get (by omega), permI_get hi, permI_get hi]
 have h1 := dnI_cases k m (k - 1)
 have h2 := dnI_cases k m k
 have h3 := dnI_cases k m i
 have h4 := dnI_cases (k - 1) m i
 by_cases e : k - 1 = i
 ·rw [if_pos e]; congr 1; omega
 ·rw [if_neg e]
  by_cases e2 : k = i
  ·rw [if_pos e2]; congr 1; omega
  ·rw [if_neg e2]; congr 1; omega
end
end Go.KB
namespace Go.KB
set_option linter.unusedVariables false
def lx (L0 : List Gsurvey_leaf) (u v : Nat) : Prop := L0[u]!.piece < L0[v]!.piece ∨ (L0[u]!.piece = L0[v]!.piece ∧ u < v)
theorem lx_trans {L0 : List Gsurvey_leaf} {u v w : Nat} (h : lx L0 u v) (h' : lx L0 v w) : lx L0 u w := by unfold lx at *; omega
def SortedOn (L0 : List Gsurvey_leaf) (π : Nat → Nat) (a b : Nat) : Prop := ∀ i j, a ≤ i → i < j → j < b → lx L0 (π i) (π j)
structure MS (L0 : List Gsurvey_leaf) (π : Nat → Nat) (a m b : Nat) : Prop where
 s1 : SortedOn L0 π a m
 s2 : SortedOn L0 π m b
 tag : ∀ i j, a ≤ i → i < m → m ≤ j → j < b → π i < π j
structure MR (L0 : List Gsurvey_leaf) (π π' : Nat → Nat) (a b : Nat) : Prop where
 out : ∀ k, ¬(a ≤ k ∧ k < b) → π' k = π k
 so : SortedOn L0 π' a b
 of : ∀ k, a ≤ k → k < b → ∃ i, a ≤ i ∧ i < b ∧ π' k = π i
theorem SortedOn.le {L0 : List Gsurvey_leaf} {π : Nat → Nat} {a b i j : Nat} (h : SortedOn L0 π a b) (h1 : a ≤ i) (h2 : i ≤ j) (h3 : j < b) {w : Nat} (hw : lx L0 (π j) w) : lx L0 (π i) w := by
 by_cases e : i = j
 ·subst e; exact hw
 ·exact lx_trans (h i j h1 (by omega) h3) hw
theorem SortedOn.ge {L0 : List Gsurvey_leaf} {π : Nat → Nat} {a b i j : Nat} (h : SortedOn L0 π a b) (h1 : a ≤ i) (h2 : i ≤ j) (h3 : j < b) {w : Nat} (hw : lx L0 w (π i)) : lx L0 w (π j) := by
 by_cases e : i = j
 ·subst e; exact hw
 ·exact lx_trans hw (h i j h1 (by omega) h3)
theorem merge_up {L0 : List Gsurvey_leaf} {π : Nat → Nat} {a m b e : Nat} (h : MS L0 π a m b) (hm : m = a + 1) (hb : m ≤ b) (h1 : m ≤ e) (h2 : e ≤ b) (hl : m < e → L0[π (e - 1)]!.piece < L0[π a]!.piece) (hr : e < b → ¬ L0[π e]!.piece < L0[π a]!.piece) : MR L0 π (fun k => π (upI a (e - 1) k)) a b := by
  refine ⟨fun k hk => ?_, fun i j hi hij hj => ?_, fun k hk1 hk2 => ⟨upI a (e - 1) k, ?_, ?_, rfl⟩⟩
  · have := upI_cases a (e - 1) k
    show π (upI a (e - 1) k) = π k
    congr 1; omega
  · show lx L0 (π (upI a (e - 1) i)) (π (upI a (e - 1) j))
    have ci := upI_cases a (e - 1) i
    have cj := upI_cases a (e - 1) j
    have hlast : m < e → lx L0 (π (e - 1)) (π a) := fun x => .inl (hl x)
    have hfirst : e < b → lx L0 (π a) (π e) := fun x => by
      have t := h.tag a e (Nat.le_refl _) (by omega) (by omega) x
      have := hr x
      unfold lx; omega
    by_cases ei : i < e - 1
    · have e1 : upI a (e - 1) i = i + 1 := by omega
      rw [e1]
      by_cases ej : j = e - 1
      · have e2 : upI a (e - 1) j = a := by omega
        rw [e2]
        exact h.s2.le (i := i + 1) (j := e - 1) (by omega) (by omega) (by omega) (hlast (by omega))
      · have e2 : upI a (e - 1) j = if j < e - 1 then j + 1 else j := by split <;> omega
        rw [e2]
        split
        · exact h.s2 _ _ (by omega) (by omega) (by omega)
        · exact h.s2 _ _ (by omega) (by omega) (by omega)
    · by_cases ei2 : i = e - 1
      · have e1 : upI a (e - 1) i = a := by omega
        have e2 : upI a (e - 1) j = j := by omega
        rw [e1, e2]
        exact h.s2.ge (i := e) (j := j) (by omega) (by omega) hj (hfirst (by omega))
      · have e1 : upI a (e - 1) i = i := by omega
        have e2 : upI a (e - 1) j = j := by omega
        rw [e1, e2]
        exact h.s2 i j (by omega) hij hj
  · have := upI_cases a (e - 1) k; omega
  · have := upI_cases a (e - 1) k; omega
theorem merge_dn {L0 : List Gsurvey_leaf} {π : Nat → Nat} {a m b e : Nat} (h : MS L0 π a m b) (hm : b = m + 1) (h1 : a ≤ e) (h2 : e ≤ m) (hl : a < e → ¬ L0[π m]!.piece < L0[π (e - 1)]!.piece) (hr : e < m → L0[π m]!.piece < L0[π e]!.piece) : MR L0 π (fun k => π (dnI e m k)) a b := by
  refine ⟨fun k hk => ?_, fun i j hi hij hj => ?_, fun k hk1 hk2 => ⟨dnI e m k, ?_, ?_, rfl⟩⟩
  · have := dnI_cases e m k
    show π (dnI e m k) = π k
    congr 1; omega
  · show lx L0 (π (dnI e m i)) (π (dnI e m j))
    have ci := dnI_cases e m i
    have cj := dnI_cases e m j
    have hlast : a < e → lx L0 (π (e - 1)) (π m) := fun x => by
      have t := h.tag (e - 1) m (by omega) (by omega) (Nat.le_refl _) (by omega)
      have := hl x
      unfold lx; omega
    have hfirst : e < m → lx L0 (π m) (π e) := fun x => .inl (hr x)
    by_cases ei : i < e
    · have e1 : dnI e m i = i := by omega
      rw [e1]
      by_cases ej : j = e
      · have e2 : dnI e m j = m := by omega
        rw [e2]
        exact h.s1.le (i := i) (j := e - 1) hi (by omega) (by omega) (hlast (by omega))
      · have e2 : dnI e m j = if j < e then j else j - 1 := by split <;> omega
        rw [e2]
        split
        · exact h.s1 _ _ hi hij (by omega)
        · exact h.s1 _ _ hi (by omega) (by omega)
    · by_cases ei2 : i = e
      · have e1 : dnI e m i = m := by omega
        have e2 : dnI e m j = j - 1 := by omega
        rw [e1, e2]
        exact h.s1.ge (i := e) (j := j - 1) h1 (by omega) (by omega) (hfirst (by omega))
      · have e1 : dnI e m i = i - 1 := by omega
        have e2 : dnI e m j = j - 1 := by omega
        rw [e1, e2]
        exact h.s1 _ _ (by omega) (by omega) (by omega)
  · have := dnI_cases e m k; omega
  · have := dnI_cases e m k; omega
theorem halves {L0 : List Gsurvey_leaf} {π : Nat → Nat} {a m b e d mid : Nat} (h : MS L0 π a m b) (h1 : a ≤ e) (h2 : e ≤ m) (h3 : m ≤ d) (h4 : d ≤ b) (hmid : e + (d - m) = mid) (hA : a < e → d < b → ¬ L0[π d]!.piece < L0[π (e - 1)]!.piece) (hB : e < m → m < d → L0[π (d - 1)]!.piece < L0[π e]!.piece) :
    MS L0 (fun k => π (rotI e m d k)) a e mid ∧ MS L0 (fun k => π (rotI e m d k)) mid d b ∧ ∀ i j, a ≤ i → i < mid → mid ≤ j → j < b → lx L0 (π (rotI e m d i)) (π (rotI e m d j)) := by
  have c := rotI_cases e m d
  have r1 : ∀ k, k < e → rotI e m d k = k := fun k hk => by have := c k; omega
  have r2 : ∀ k, e ≤ k → k < mid → rotI e m d k = m + (k - e) := fun k hk hk2 => by have := c k; omega
  have r3 : ∀ k, mid ≤ k → k < d → rotI e m d k = e + (k - mid) := fun k hk hk2 => by have := c k; omega
  have r4 : ∀ k, d ≤ k → rotI e m d k = k := fun k hk => by have := c k; omega
  refine ⟨⟨fun i j x y z => ?_, fun i j x y z => ?_, fun i j x y z w => ?_⟩, ⟨fun i j x y z => ?_, fun i j x y z => ?_, fun i j x y z w => ?_⟩, fun i j x y z w => ?_⟩
  · show lx L0 (π (rotI e m d i)) (π (rotI e m d j))
    rw [r1 i (by omega), r1 j z]; exact h.s1 i j x y (by omega)
  · show lx L0 (π (rotI e m d i)) (π (rotI e m d j))
    rw [r2 i x (by omega), r2 j (by omega) z]; exact h.s2 _ _ (by omega) (by omega) (by omega)
  · show π (rotI e m d i) < π (rotI e m d j)
    rw [r1 i y, r2 j z w]; exact h.tag _ _ x (by omega) (by omega) (by omega)
  · show lx L0 (π (rotI e m d i)) (π (rotI e m d j))
    rw [r3 i x (by omega), r3 j (by omega) z]; exact h.s1 _ _ (by omega) (by omega) (by omega)
  · show lx L0 (π (rotI e m d i)) (π (rotI e m d j))
    rw [r4 i x, r4 j (by omega)]; exact h.s2 _ _ (by omega) y z
  · show π (rotI e m d i) < π (rotI e m d j)
    rw [r3 i x y, r4 j z]; exact h.tag _ _ (by omega) (by omega) (by omega) w
  · by_cases ei : i < e
    · rw [r1 i ei]
      by_cases ej : j < d
      · rw [r3 j z ej]; exact h.s1 _ _ x (by omega) (by omega)
      · rw [r4 j (by omega)]
        have t := h.tag (e - 1) d (by omega) (by omega) h3 (by omega)
        have hx : lx L0 (π (e - 1)) (π d) := by
          have := hA (by omega) (by omega)
          unfold lx; omega
        exact h.s1.le (i := i) (j := e - 1) x (by omega) (by omega) (h.s2.ge (i := d) (j := j) h3 (by omega) w hx)
    · rw [r2 i (by omega) y]
      by_cases ej : j < d
      · rw [r3 j z ej]
        have hx : lx L0 (π (d - 1)) (π e) := .inl (hB (by omega) (by omega))
        exact h.s2.le (i := m + (i - e)) (j := d - 1) (by omega) (by omega) (by omega) (h.s1.ge (i := e) (j := e + (j - mid)) h1 (by omega) (by omega) hx)
      · rw [r4 j (by omega)]; exact h.s2 _ _ (by omega) (by omega) w
theorem MR.join {L0 : List Gsurvey_leaf} {π1 π2 π3 : Nat → Nat} {a mid b : Nat} (h1 : MR L0 π1 π2 a mid) (h2 : MR L0 π2 π3 mid b) (ha : a ≤ mid) (hb : mid ≤ b) (hx : ∀ i j, a ≤ i → i < mid → mid ≤ j → j < b → lx L0 (π1 i) (π1 j)) : MR L0 π1 π3 a b := by
  have e2 : ∀ k, mid ≤ k → π2 k = π1 k := fun k hk => h1.out k (by omega)
  have e3 : ∀ k, k < mid → π3 k = π2 k := fun k hk => h2.out k (by omega)
  refine ⟨fun k hk => ?_, fun i j x y z => ?_, fun k x y => ?_⟩
  · rw [h2.out k (by omega), h1.out k (by omega)]
  · by_cases hj : j < mid
    · rw [e3 i (by omega), e3 j hj]; exact h1.so i j x y hj
    · by_cases hi : mid ≤ i
      · exact h2.so i j hi y z
      · obtain ⟨i', i1, i2, i3⟩ := h1.of i x (by omega)
        obtain ⟨j', j1, j2, j3⟩ := h2.of j (by omega) z
        rw [e3 i (by omega), i3, j3, e2 j' j1]
        exact hx i' j' i1 i2 j1 j2
  · by_cases hk : k < mid
    · obtain ⟨i, i1, i2, i3⟩ := h1.of k x hk
      exact ⟨i, i1, by omega, by rw [e3 k hk, i3]⟩
    · obtain ⟨j, j1, j2, j3⟩ := h2.of k (by omega) y
      exact ⟨j, by omega, j2, by rw [j3, e2 j j1]⟩
theorem MR.same {L0 : List Gsurvey_leaf} {π : Nat → Nat} {a m b : Nat} (h : MS L0 π a m b) (e : m ≤ a ∨ b ≤ m) : MR L0 π π a b := by
 refine ⟨fun _ _ => rfl, fun i j x y z => ?_, fun k x y => ⟨k, x, y, rfl⟩⟩
 rcases e with e | e
 ·exact h.s2 i j (by omega) y z
 ·exact h.s1 i j x y (by omega)
end Go.KB
namespace Go.KB
set_option linter.unusedVariables false
section
variable {L0 : List Gsurvey_leaf} {φ : CmpL} {c : Gsurvey_leaf → Gsurvey_leaf → Int} (hφ : ∀ x y, φ x y = some (c x y)) (hc : ∀ x y, decide (c x y < 0) = decide (x.piece < y.piece)) (hL : L0.length < 1000000)
include hφ hc hL in
theorem sym_one {N : Nat} (hN : 2000000 ≤ N) {rc : List Gsurvey_leaf → Int → Int → Int → CmpL → Option (List Gsurvey_leaf)} {π : Nat → Nat} {a m b : Nat} (hm : m = a + 1) (h2 : m < b) (h3 : b ≤ L0.length) (h : MS L0 π a m b) :
  ∃ π', f_slices_symMergeCmpFuncsurvey_leaf_B N rc (permI L0 π) (a : Int) (m : Int) (b : Int) φ = some (permI L0 π') ∧ MR L0 π π' a b := by
 have hl := permI_len L0 π
 obtain ⟨e, he, e1, e2, e3, e4⟩ := bin_search (f := f_slices_symMergeCmpFuncsurvey_leaf_L2 N (permI L0 π) (a : Int) φ) (T := fun k => decide (L0[π k]!.piece < L0[π a]!.piece)) (lo := m) (hi := b) (fun s r q1 q2 q3 => by
  unfold f_slices_symMergeCmpFuncsurvey_leaf_L2
  simp only []
  rw [cmp_lss, dT (by omega), cnT, half_eq (by omega), bS, w64i (n := (((s + r) / 2 : Nat) : Int)) (by omega) (by omega), idxB (by omega), bS, idxB (by omega), bS, hφ, bS, cmp_lss, hc, permI_get (by omega), permI_get (by omega), w64s (by omega)]
  cases decide (L0[π ((s + r) / 2)]!.piece < L0[π a]!.piece) <;> rfl) (fun s => by
  unfold f_slices_symMergeCmpFuncsurvey_leaf_L2
  simp only []
  rw [cmp_lss, dF (by omega), cnF]) (b - m) m b (Nat.le_refl _) (Nat.le_refl _) (by omega) (Nat.le_refl _) (fun q => absurd q (Nat.lt_irrefl _)) (fun q => absurd q (Nat.lt_irrefl _)) N (by omega)
 have hsh : loopN (f_slices_symMergeCmpFuncsurvey_leaf_L1 N (e : Int)) N (permI L0 π, (a : Int)) = some (permI (permI L0 π) (upI a (e - 1))) := by
  have key : ∀ (w k M : Nat), k + w = e - 1 → a ≤ k → w < M → loopN (f_slices_symMergeCmpFuncsurvey_leaf_L1 N (e : Int)) M (permI (permI L0 π) (upI a k), (k : Int)) = some (permI (permI L0 π) (upI a (e - 1))) := by
   intro w
   induction w with
   | zero =>
    intro k M q1 q2 q3
    obtain ⟨M, rfl⟩ : ∃ x, M = x + 1 := ⟨M - 1, by omega⟩
    obtain rfl : k = e - 1 := by omega
    have : f_slices_symMergeCmpFuncsurvey_leaf_L1 N (e : Int) (permI (permI L0 π) (upI a (e - 1)), ((e - 1 : Nat) : Int)) = some (.inr (permI (permI L0 π) (upI a (e - 1)))) := by
     unfold f_slices_symMergeCmpFuncsurvey_leaf_L1
     simp only []
     rw [w64i (n := (e : Int) - 1) (by omega) (by omega), cmp_lss, dF (by omega), cnF]
    rw [loopN, this]
   | succ w ih =>
    intro k M q1 q2 q3
    obtain ⟨M, rfl⟩ : ∃ x, M = x + 1 := ⟨M - 1, by omega⟩
    have hll := permI_len (permI L0 π) (upI a k)
    have : f_slices_symMergeCmpFuncsurvey_leaf_L1 N (e : Int) (permI (permI L0 π) (upI a k), (k : Int)) = some (.inl (permI (permI L0 π) (upI a (k + 1)), ((k + 1 : Nat) : Int))) := by
     unfold f_slices_symMergeCmpFuncsurvey_leaf_L1
     simp only []
     rw [w64i (n := (e : Int) - 1) (by omega) (by omega), cmp_lss, dT (by omega), cnT, w64s (by omega), idxB (by omega), bS, idxB (by omega), bS, bS, Int.toNat_natCast, Int.toNat_natCast, idxB (by rw [List.length_set]; omega), bS, upI_step q2 (by omega)]
    rw [loopN, this]
    exact ih (k + 1) M (by omega) (by omega) (by omega)
  have h0 : permI (permI L0 π) (upI a a) = permI L0 π := by
   rw [permI_congr (g := fun k => k) fun k hk => ?_, permI_id]
   have := upI_cases a a k
   omega
  have := key (e - 1 - a) a N (by omega) (Nat.le_refl _) (by omega)
  rw [h0] at this
  exact this
 refine ⟨fun k => π (upI a (e - 1) k), ?_, merge_up h hm (by omega) e1 e2 (fun q => by simpa using e3 q) (fun q => by simpa using e4 q)⟩
 unfold f_slices_symMergeCmpFuncsurvey_leaf_B
 rw [w64i (n := (m : Int) - (a : Int)) (by omega) (by omega), cmp_eql, dT (by omega), cnT, he, bS, hsh, bS, permI_comp fun k hk => ?_]
 have := upI_cases a (e - 1) k
 omega
include hφ hc hL in
theorem sym_last {N : Nat} (hN : 2000000 ≤ N) {rc : List Gsurvey_leaf → Int → Int → Int → CmpL → Option (List Gsurvey_leaf)} {π : Nat → Nat} {a m b : Nat} (ha : a < m) (hm1 : m ≠ a + 1) (hm : b = m + 1) (h3 : b ≤ L0.length) (h : MS L0 π a m b) :
  ∃ π', f_slices_symMergeCmpFuncsurvey_leaf_B N rc (permI L0 π) (a : Int) (m : Int) (b : Int) φ = some (permI L0 π') ∧ MR L0 π π' a b := by
 have hl := permI_len L0 π
 obtain ⟨e, he, e1, e2, e3, e4⟩ := bin_search (f := f_slices_symMergeCmpFuncsurvey_leaf_L4 N (permI L0 π) (m : Int) φ) (T := fun k => !decide (L0[π m]!.piece < L0[π k]!.piece)) (lo := a) (hi := m) (fun s r q1 q2 q3 => by
  unfold f_slices_symMergeCmpFuncsurvey_leaf_L4
  simp only []
  rw [cmp_lss, dT (by omega), cnT, half_eq (by omega), bS, idxB (by omega), bS, w64i (n := (((s + r) / 2 : Nat) : Int)) (by omega) (by omega), idxB (by omega), bS, hφ, bS, cmp_lss, hc, permI_get (by omega), permI_get (by omega), w64s (by omega)]
  cases decide (L0[π m]!.piece < L0[π ((s + r) / 2)]!.piece) <;> rfl) (fun s => by
  unfold f_slices_symMergeCmpFuncsurvey_leaf_L4
  simp only []
  rw [cmp_lss, dF (by omega), cnF]) (m - a) a m (Nat.le_refl _) (Nat.le_refl _) (by omega) (Nat.le_refl _) (fun q => absurd q (Nat.lt_irrefl _)) (fun q => absurd q (Nat.lt_irrefl _)) N (by omega)
 have hsh : loopN (f_slices_symMergeCmpFuncsurvey_leaf_L3 N (e : Int)) N (permI L0 π, (m : Int)) = some (permI (permI L0 π) (dnI e m)) := by
  have key : ∀ (w k M : Nat), k = e + w → k ≤ m → w < M → loopN (f_slices_symMergeCmpFuncsurvey_leaf_L3 N (e : Int)) M (permI (permI L0 π) (dnI k m), (k : Int)) = some (permI (permI L0 π) (dnI e m)) := by
   intro w
   induction w with
   | zero =>
    intro k M q1 q2 q3
    obtain ⟨M, rfl⟩ : ∃ x, M = x + 1 := ⟨M - 1, by omega⟩
    obtain rfl : k = e := by omega
    have : f_slices_symMergeCmpFuncsurvey_leaf_L3 N (k : Int) (permI (permI L0 π) (dnI k m), (k : Int)) = some (.inr (permI (permI L0 π) (dnI k m))) := by
     unfold f_slices_symMergeCmpFuncsurvey_leaf_L3
     simp only []
     rw [cmp_gtr, dF (by omega), cnF]
    rw [loopN, this]
   | succ w ih =>
    intro k M q1 q2 q3
    obtain ⟨M, rfl⟩ : ∃ x, M = x + 1 := ⟨M - 1, by omega⟩
    have hll := permI_len (permI L0 π) (dnI k m)
    have : f_slices_symMergeCmpFuncsurvey_leaf_L3 N (e : Int) (permI (permI L0 π) (dnI k m), (k : Int)) = some (.inl (permI (permI L0 π) (dnI (k - 1) m), ((k - 1 : Nat) : Int))) := by
     unfold f_slices_symMergeCmpFuncsurvey_leaf_L3
     simp only []
     rw [cmp_gtr, dT (by omega), cnT, show (k : Int) - 1 = ((k - 1 : Nat) : Int) by omega, w64i (n := ((k - 1 : Nat) : Int)) (by omega) (by omega), idxB (by omega), bS, idxB (by omega), bS, bS, Int.toNat_natCast, Int.toNat_natCast, idxB (by rw [List.length_set]; omega), bS, dnI_step (by omega) q2 (by omega)]
    rw [loopN, this]
    exact ih (k - 1) M (by omega) (by omega) (by omega)
  have h0 : permI (permI L0 π) (dnI m m) = permI L0 π := by
   rw [permI_congr (g := fun k => k) fun k hk => ?_, permI_id]
   have := dnI_cases m m k
   omega
  have := key (m - e) m N (by omega) (Nat.le_refl _) (by omega)
  rw [h0] at this
  exact this
 refine ⟨fun k => π (dnI e m k), ?_, merge_dn h hm e1 e2 (fun q => by simpa using e3 q) (fun q => by simpa using e4 q)⟩
 unfold f_slices_symMergeCmpFuncsurvey_leaf_B
 rw [w64i (n := (m : Int) - (a : Int)) (by omega) (by omega), cmp_eql, dF (by omega), cnF, w64i (n := (b : Int) - (m : Int)) (by omega) (by omega), cmp_eql, dT (by omega), cnT, he, bS, hsh, bS, permI_comp fun k hk => ?_]
 have := dnI_cases e m k
 omega
end
end Go.KB
