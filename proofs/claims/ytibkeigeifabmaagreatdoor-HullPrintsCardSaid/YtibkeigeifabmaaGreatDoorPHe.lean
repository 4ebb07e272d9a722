/- The text of a ship is read back as the ship. No condition. -/
import Derived.Test.YtibkeigeifabmaaGreatDoorPHc
import Derived.Test.YtibkeigeifabmaaGreatDoorPHd
namespace Go.KB
set_option linter.unusedVariables false
set_option maxRecDepth 100000
/- a ship that is right -/
theorem qJx {a b n : Int} (h : inR a b n = true) : a ≤ n ∧ n ≤ b := by unfold inR at h; simpa using h
theorem qVx.of {l : List jJv} {i : Nat} (h : jGf l i = 0) : qVx l[i]! := by
  have key : jYs l[i]! = 0 ∧ jYd l[i]! = 0 := by
    unfold jGf jF7 at h
    split at h
    · rename_i hp
      refine ⟨hp, ?_⟩
      split at h
      · exact h
      · split at h
        · exact h
        · rename_i hn; exact absurd h hn
    · rename_i hp; exact absurd h hp
  have p := jNp key.1
  have h2 := key.2
  unfold jYd at h2
  split at h2
  · cases h2
  · rename_i hn
    split at h2
    · rename_i hl
      refine ⟨by unfold big; omega, by unfold big; omega, by omega, by omega, by omega, fun n hm => ?_, fun n hm => ?_⟩
      · obtain ⟨j, hj, rfl⟩ := List.mem_iff_getElem.1 hm
        have := jKm hl j (by omega) (by omega)
        unfold jNa at this
        split at this
        · rename_i h4
          rw [qU2 hj] at h4
          have := qJx h4
          unfold big; omega
        · cases this
      · obtain ⟨j, hj, rfl⟩ := List.mem_iff_getElem.1 hm
        have := jKm h2 j (by omega) (by omega)
        unfold qVk at this
        split at this
        · rename_i h4
          rw [qU2 hj] at h4
          have := qJx h4
          unfold big; omega
        · cases this
    · rename_i hl; exact absurd h2 hl
theorem qQ6.of {x : jJc} {least : Int} (h0 : 0 ≤ least) (hn : jW3 x.Name = true) (h : jFs x least = 0) : qQ6 x := by
  unfold jFs at h
  split at h
  · rename_i hp
    simp only [Bool.and_eq_true] at hp
    obtain ⟨⟨⟨h1, h2⟩, h3⟩, h4⟩ := hp
    have h1 := qJx h1
    have h2 := qJx h2
    have h3 := qJx h3
    have h4 := qJx h4
    exact ⟨hn, by unfold big; omega, by unfold big; omega, by unfold big; omega, by unfold big; omega⟩
  · cases h
theorem jC8.of {s : GShip} (h : jSy s = 0) : jC8 s := by
  unfold jSy at h
  split at h
  · rename_i hn
    split at h
    · rename_i hl
      rw [Bool.and_eq_true] at hl
      have h1 := qJx hl.1
      have h2 := qJx hl.2
      split at h
      · rename_i hz
        unfold qJd at h
        split at h
        · rename_i hn2
          split at h
          · rename_i hm
            split at h
            · cases h
            · rename_i h60
              refine ⟨hn, by unfold big; omega, by omega, by omega, fun t ht => ?_, qQ6.of (by decide) hn2 hm, fun x hx => ?_⟩
              · obtain ⟨j, hj, rfl⟩ := List.mem_iff_getElem.1 ht
                have := qVx.of (jKm hz j (by omega) (by omega))
                rwa [qU2 hj] at this
              · obtain ⟨j, hj, rfl⟩ := List.mem_iff_getElem.1 hx
                have := jKm h j (by omega) (by omega)
                unfold jCk at this
                split at this
                · rename_i hn3
                  split at this
                  · cases this
                  · rw [qU2 hj] at this hn3
                    exact qQ6.of (by decide) hn3 this
                · cases this
          · rename_i hm; exact absurd h hm
        · cases h
      · rename_i hz; exact absurd h hz
    · cases h
  · cases h
/- the words of the lines -/
theorem jC7 {s : Str} {c : UInt8} (h : jW3 s = true) (hc : c.toNat < 45) : ∀ b ∈ s, b ≠ c := by
  have key : ∀ b : UInt8, jUd b = true → b ≠ c := by
    intro b hb e
    subst e
    unfold jUd jDf chr at hb
    simp only [Bool.or_eq_true, Bool.and_eq_true, decide_eq_true_eq] at hb
    omega
  have key2 : ∀ b : UInt8, jDf b = true → b ≠ c := fun b hb => key b (by unfold jUd; rw [hb]; rfl)
  unfold jW3 at h
  cases s with
  | nil => intro b hb; cases hb
  | cons a r =>
    simp only [Bool.and_eq_true, List.all_eq_true] at h
    intro b hb
    rcases List.mem_cons.1 hb with rfl | hb
    · exact key2 _ h.1.2
    · exact key b (h.2 b hb)
theorem qQ3 {s : Str} (h : jW3 s = true) : s ≠ [] := by
  intro e; rw [e] at h; cases h
theorem qJl {l : List Int} : jSq l = Lib.joinTail [32] (l.map Lib.itoa) := by
  unfold jSq Lib.joinTail
  rw [List.map_map]; rfl
theorem qY0 {w : Str} {l : List Int} : jDk [w] l = w ++ Lib.joinTail [32] (l.map Lib.itoa) := by
  unfold jDk
  rw [Lib.join_one, qJl]
theorem qGv {w nm : Str} {l : List Int} : jDk [w, nm] l = w ++ Lib.joinTail [32] (nm :: l.map Lib.itoa) := by
  unfold jDk
  rw [jRs, qJl]
  simp [Lib.joinTail]
theorem jNf {l : List Int} {c : UInt8} (hc : c.toNat < 45) : ∀ y ∈ l.map Lib.itoa, ∀ b ∈ y, b ≠ c := by
  intro y hy
  obtain ⟨n, _, rfl⟩ := List.mem_map.1 hy
  exact qH1 hc
theorem readS1 {w : Str} {l : List Int} (hw : ∀ b ∈ w, b ≠ 32) (hl : ∀ n ∈ l, big n) : jLh (jDk [w] l) false = some ⟨w, [], l⟩ := by
  unfold jLh
  rw [qY0, jR9 _ w hw (jNf (by decide))]
  simp only [cnF]
  rw [jSs hl]; rfl
theorem qGn {w nm : Str} {l : List Int} (hw : ∀ b ∈ w, b ≠ 32) (hn : ∀ b ∈ nm, b ≠ 32) (h0 : nm ≠ []) (hl : ∀ n ∈ l, big n) : jLh (jDk [w, nm] l) true = some ⟨w, nm, l⟩ := by
  unfold jLh
  rw [qGv, jR9 _ w hw (fun y hy => by
    rcases List.mem_cons.1 hy with rfl | hy
    · exact hn
    · exact jNf (by decide) y hy)]
  simp only [cnT]
  rw [if_neg h0, jSs hl]; rfl
theorem qG8 {w : Str} {n : Int} {l : List Int} (hw : ∀ b ∈ w, b ≠ 32) (hl : ∀ m ∈ n :: l, big m) : jLh (jDk [w] (n :: l)) true = some ⟨w, Lib.itoa n, l⟩ := by
  unfold jLh
  rw [qY0, jR9 _ w hw (jNf (by decide))]
  simp only [cnT, List.map_cons]
  rw [if_neg qHt, jSs fun m hm => hl m (List.mem_cons_of_mem _ hm)]; rfl
theorem qXy {w : Str} {x : jJc} (hw : ∀ b ∈ w, b ≠ 32) (h : qQ6 x) : jTy (ldL w x) w = some x := by
  unfold jTy ldL
  rw [qGn hw (jC7 h.n (by decide)) (qQ3 h.n) (jC6 h)]
  show (if w = w then some x else none) = some x
  rw [if_pos rfl]
theorem qUv {t : jJv} (h : qVx t) : jTy (stL t) jHa = none := by
  have e : stL t = jDk [qQu] (t.X :: (t.Width :: ilv t.Levels t.Halves)) := rfl
  unfold jTy
  rw [e, qG8 (n := t.X) (l := t.Width :: ilv t.Levels t.Halves) (by decide) (jRl h)]
  exact if_neg (show ¬ qQu = jHa by decide)
theorem qHm {t : jJv} (h : qVx t) : staS (stL t) = some t := by
  have e : jLh (stL t) false = some ⟨qQu, [], stN t⟩ := readS1 (by decide) (jRl h)
  have hl := jCf h
  have h0 := h.l0
  have hh := h.h
  unfold staS
  rw [e]
  show (if qQu = qQu then staN (stN t) else none) = some t
  rw [if_pos rfl]
  have hd := qHa (a := t.Levels) (b := t.Halves) (by omega) (by omega)
  obtain ⟨X, W, L, Hh⟩ := t
  simp only [] at h0 hh hd hl
  cases L with
  | nil => simp at h0
  | cons a L =>
    have e2 : ∃ r, ilv (a :: L) Hh = a :: r := by cases Hh <;> exact ⟨_, rfl⟩
    obtain ⟨r, hr⟩ := e2
    unfold stN at hl ⊢
    simp only [] at hl ⊢
    rw [hr] at hd hl ⊢
    show (if ([X, W] ++ a :: r).length % 2 = 1 then some (⟨X, W, (dei (a :: r)).1, (dei (a :: r)).2⟩ : jJv) else none) = _
    rw [if_pos (by rw [hl]; omega), hd]
/- lines, one behind the other -/
def Steps {S : Type} (Y : S → Str → Option (S × Bool)) : S → List Str → S → Prop
  | s, [], t => s = t
  | s, x :: l, t => ∃ u, Y s (x ++ [10]) = some (u, true) ∧ Steps Y u l t
theorem Steps.app {S : Type} {Y : S → Str → Option (S × Bool)} {t v : S} : ∀ {l : List Str} {s : S} {m : List Str}, Steps Y s l t → Steps Y t m v → Steps Y s (l ++ m) v := by
  intro l
  induction l with
  | nil => intro s m h1 h2; cases h1; exact h2
  | cons x l ih =>
    intro s m h1 h2
    obtain ⟨u, h3, h4⟩ := h1
    exact ⟨u, h3, ih h4 h2⟩
theorem qGa {α : Type} {a b : List α} : slc (a ++ b) ((a.length : Nat) : Int) (((a ++ b).length : Nat) : Int) = some b := by
  rw [jN4 (by simp), List.drop_left]
theorem qYn {N : Nat} {S : Type} {Y : S → Str → Option (S × Bool)} {t : S} : ∀ {l : List Str} {s : S} (M : Nat), Steps Y s l t → (∀ x ∈ l, ∀ b ∈ x, b ≠ (10 : UInt8)) → (unl l).length ≤ 1000000 → l.length < M →
    jQ1 (jXl N Y ([10] : Str) (([10] : Str).length : Int)) M (s, unl l) = some (.inl (t, [])) := by
  intro l
  induction l with
  | nil =>
    intro s M h _ _ hM
    obtain ⟨M, rfl⟩ : ∃ m, M = m + 1 := ⟨M - 1, by omega⟩
    cases h
    rfl
  | cons x l ih =>
    intro s M h hn hl hM
    obtain ⟨M, rfl⟩ : ∃ m, M = m + 1 := ⟨M - 1, by omega⟩
    obtain ⟨u, h1, h2⟩ := h
    have hl2 : (unl l).length ≤ 1000000 := by rw [jHy, List.length_append, List.length_cons] at hl; omega
    have hx : x.length ≤ 1000000 := by rw [jHy, List.length_append, List.length_cons] at hl; omega
    have e : jXl N Y ([10] : Str) (([10] : Str).length : Int) (s, unl (x :: l)) = some (.inl (u, unl l)) := by
      have ei : jUe N (unl (x :: l)) [10] = some (x.length : Int) := by
        unfold jUe qQ5
        rw [show Nat.blt (unl (x :: l)).length 4294967281 = true by rw [Nat.blt_eq]; omega, cnT, jHy, qWr x (hn x List.mem_cons_self)]
      have ec : unl (x :: l) = (x ++ [10]) ++ unl l := by rw [jHy]; simp
      have ew : IntKind.i64.wrap ((x.length : Int) + (([10] : Str).length : Int)) = (((x ++ [10]).length : Nat) : Int) := by
        rw [qQq (by simp; omega) (by simp; omega)]; simp
      unfold jXl
      simp only []
      rw [ei, bS, jQe, dF (by omega), cnF, ew, ec, show (0 : Int) = ((0 : Nat) : Int) from rfl, slcN (by omega) (by simp), bS, List.take_left, List.drop_zero, h1, bS]
      simp only [Bool.not_true, cnF]
      rw [qGa, bS]
    rw [jQ1, e]
    exact ih M h2 (fun y hy => hn y (List.mem_cons_of_mem _ hy)) hl2 (by simp at hM; omega)
/- a round -/
theorem qHx {N : Nat} {x : Str} (hx : x.length ≤ 1000000) : jWn N (x ++ [10]) ([10] : Str) = some (x, true) := by
  have ew : IntKind.i64.wrap ((((x ++ [10]).length : Nat) : Int) - ((([10] : Str).length : Nat) : Int)) = (x.length : Int) := by
    rw [qQq (by simp only [List.length_append, List.length_cons, List.length_nil]; omega) (by simp only [List.length_append, List.length_cons, List.length_nil]; omega)]; simp
  unfold jWn jWv jWk
  rw [jR2, dT (by simp only [List.length_append, List.length_cons, List.length_nil]; omega), cnT, ew, qGa, bS, bS, Bool.true_and, jDl, dT rfl, Bool.not_true, cnF, show (0 : Int) = ((0 : Nat) : Int) from rfl, slcN (by omega) (by simp), bS, bS, List.take_left, List.drop_zero]
def St3 : Type := (GShip × Int × Int) × Option Nat
theorem jRg {N : Nat} {g g' : GShip} {x : Str} {st st' : Int} {n : Nat} (hx : x.length ≤ 60000) (h1 : g.Stations.length ≤ 1000) (h2 : g.Items.length ≤ 1000) (hn : n ≤ 100000) (hN : 2 ^ 64 ≤ N) (ha : qVj g x st = some (g', st')) :
    yl (jQ9 N) 1 ((g, st, (n : Int)), none) (x ++ [10]) = some (((g', st', ((n + 1 : Nat) : Int)), none), true) := by
  have e : jQ9 N (g, st, (n : Int)) (x ++ [10]) = some ((g', st', ((n + 1 : Nat) : Int)), none) := by
    have ea := (add_eq (N := N) (g := g) (x := x) (st := st) hx (by omega) (by omega) hN).1 _ ha
    unfold jQ9
    rw [jDl, dF (by simp), cnF, qHx (by omega), bS]
    simp only []
    rw [ea, bS, jN9 (by omega)]
    rfl
  unfold yl
  simp only []
  rw [e]
theorem qK3 {N : Nat} (hN : 2 ^ 64 ≤ N) : ∀ {l : List jJv} {g : GShip} {n : Nat}, (∀ t ∈ l, qVx t) → g.Stations.length + l.length ≤ 1000 → g.Items.length ≤ 1000 → n + l.length ≤ 10000 →
    Steps (yl (jQ9 N) 1) ((g, 1, (n : Int)), none) (l.map stL) (({ g with Stations := g.Stations ++ l }, 1, ((n + l.length : Nat) : Int)), none) := by
  intro l
  induction l with
  | nil => intro g n _ _ _ _; obtain ⟨nm, ln, st, li, it⟩ := g; simp [Steps]
  | cons t l ih =>
    intro g n h h1 h2 h3
    have ht := h t List.mem_cons_self
    have hl := qQv ht
    simp only [List.length_cons] at h1 h3
    have ha : qVj g (stL t) 1 = some ({ g with Stations := g.Stations ++ [t] }, 1) := by
      unfold qVj
      rw [if_neg (by decide), if_pos rfl, qUv ht, qHm ht]; rfl
    refine ⟨_, jRg (by omega) (by omega) h2 (by omega) hN ha, ?_⟩
    have := ih (g := { g with Stations := g.Stations ++ [t] }) (n := n + 1) (fun u hu => h u (List.mem_cons_of_mem _ hu)) (by simp; omega) h2 (by omega)
    rw [show n + 1 + l.length = n + (t :: l).length by simp; omega] at this
    simpa using this
theorem qUa {N : Nat} (hN : 2 ^ 64 ≤ N) : ∀ {l : List jJc} {g : GShip} {n : Nat}, (∀ t ∈ l, qQ6 t) → g.Items.length + l.length ≤ 1000 → g.Stations.length ≤ 1000 → n + l.length ≤ 10000 →
    Steps (yl (jQ9 N) 1) ((g, 2, (n : Int)), none) (l.map (ldL jMh)) (({ g with Items := g.Items ++ l }, 2, ((n + l.length : Nat) : Int)), none) := by
  intro l
  induction l with
  | nil => intro g n _ _ _ _; obtain ⟨nm, ln, st, li, it⟩ := g; simp [Steps]
  | cons t l ih =>
    intro g n h h1 h2 h3
    have ht := h t List.mem_cons_self
    have hl := jLs (w := jMh) (by decide) ht
    simp only [List.length_cons] at h1 h3
    have ha : qVj g (ldL jMh t) 2 = some ({ g with Items := g.Items ++ [t] }, 2) := by
      unfold qVj
      rw [if_neg (by decide), if_neg (by decide), qXy (by decide) ht]; rfl
    refine ⟨_, jRg (by omega) h2 (by omega) (by omega) hN ha, ?_⟩
    have := ih (g := { g with Items := g.Items ++ [t] }) (n := n + 1) (fun u hu => h u (List.mem_cons_of_mem _ hu)) (by simp; omega) h2 (by omega)
    rw [show n + 1 + l.length = n + (t :: l).length by simp; omega] at this
    simpa using this
def qWv : GShip := ⟨[], 0, [], ⟨[], 0, 0, 0, 0⟩, []⟩
theorem qZa {N : Nat} {s : GShip} (h : jC8 s) (hN : 2 ^ 64 ≤ N) : ∃ k : Nat, k ≤ 10000 ∧ Steps (yl (jQ9 N) 1) ((qWv, 0, 0), none) (jN5 s) ((s, 2, (k : Int)), none) := by
  have h40 := h.s40
  have h60 := h.i60
  obtain ⟨nm, ln, st, li, it⟩ := s
  simp only [] at h40 h60
  have a0 : qVj qWv (jCu ⟨nm, ln, st, li, it⟩) 0 = some (⟨nm, ln, [], ⟨[], 0, 0, 0, 0⟩, []⟩, 1) := by
    have e : jLh (jCu ⟨nm, ln, st, li, it⟩) true = some ⟨jRu, nm, [ln]⟩ := qGn (by decide) (jC7 h.n (by decide)) (qQ3 h.n) (jAm h).2
    unfold qVj
    rw [if_pos rfl, e]
    exact if_pos rfl
  have hh := jN8 h
  have hlt : (ldL jHa li).length + 1 ≤ 100 := jLs (w := jHa) (by decide) h.li
  have r0 := jRg (N := N) (n := 0) (by omega) (by decide) (by decide) (by omega) hN a0
  have r1 := qK3 (N := N) hN (l := st) (g := ⟨nm, ln, [], ⟨[], 0, 0, 0, 0⟩, []⟩) (n := 1) h.st (by simp; omega) (by simp) (by omega)
  have a2 : qVj ⟨nm, ln, st, ⟨[], 0, 0, 0, 0⟩, []⟩ (ldL jHa li) 1 = some (⟨nm, ln, st, li, []⟩, 2) := by
    unfold qVj
    rw [if_neg (by decide), if_pos rfl, qXy (by decide) h.li]
  have r2 := jRg (N := N) (n := 1 + st.length) (by omega) (by simp; omega) (by simp) (by omega) hN a2
  have r3 := qUa (N := N) hN (l := it) (g := ⟨nm, ln, st, li, []⟩) (n := 1 + st.length + 1) h.it (by simp; omega) (by simp; omega) (by omega)
  refine ⟨1 + st.length + 1 + it.length, by omega, ⟨_, r0, ?_⟩⟩
  simp only [List.nil_append] at r1 r3
  exact Steps.app r1 ⟨_, r2, r3⟩
theorem qK8 {s : GShip} (h : jC8 s) : ∀ x ∈ jN5 s, ∀ b ∈ x, b ≠ (10 : UInt8) := by
  have tl : ∀ (l : List Str), (∀ y ∈ l, ∀ b ∈ y, b ≠ (10 : UInt8)) → ∀ b ∈ Lib.joinTail [32] l, b ≠ (10 : UInt8) := by
    intro l hl b hb
    unfold Lib.joinTail at hb
    obtain ⟨y, hy, hb⟩ := List.mem_flatten.1 hb
    obtain ⟨z, hz, rfl⟩ := List.mem_map.1 hy
    rcases List.mem_append.1 hb with hb | hb
    · rw [List.mem_singleton] at hb; rw [hb]; decide
    · exact hl z hz b hb
  have l2 : ∀ (w nm : Str) (ns : List Int), (∀ b ∈ w, b ≠ (10 : UInt8)) → jW3 nm = true → ∀ b ∈ jDk [w, nm] ns, b ≠ (10 : UInt8) := by
    intro w nm ns hw hn b hb
    rw [qGv] at hb
    rcases List.mem_append.1 hb with hb | hb
    · exact hw b hb
    · refine tl _ (fun y hy => ?_) b hb
      rcases List.mem_cons.1 hy with rfl | hy
      · exact jC7 hn (by decide)
      · exact jNf (by decide) y hy
  intro x hx
  unfold jN5 at hx
  rcases List.mem_cons.1 hx with rfl | hx
  · exact l2 _ _ _ (by decide) h.n
  · rcases List.mem_append.1 hx with hx | hx
    · obtain ⟨t, ht, rfl⟩ := List.mem_map.1 hx
      intro b hb
      unfold stL at hb
      rw [qY0] at hb
      rcases List.mem_append.1 hb with hb | hb
      · exact (show ∀ b ∈ qQu, b ≠ (10 : UInt8) by decide) b hb
      · exact tl _ (jNf (by decide)) b hb
    · rcases List.mem_cons.1 hx with rfl | hx
      · exact l2 _ _ _ (by decide) h.li.n
      · obtain ⟨t, ht, rfl⟩ := List.mem_map.1 hx
        exact l2 _ _ _ (by decide) (h.it t ht).n
theorem qVp {N : Nat} {s : GShip} (h : jC8 s) (hN : 2 ^ 64 ≤ N) : jKb N (qW3 s) = some s := by
  obtain ⟨k, hk, hs⟩ := qZa h hN
  have ht := qVl h
  have h40 := h.s40
  have h60 := h.i60
  have hr := qYn (N := N) N hs (qK8 h) (show (unl (jN5 s)).length ≤ 1000000 by have : (unl (jN5 s)).length = (qW3 s).length := rfl; omega) (by unfold jN5; simp; omega)
  unfold jKb jVe
  rw [jU3, dF (show ¬ ((([10] : Str).length : Nat) : Int) = 0 by decide), cnF]
  rw [show jQ1 (jXl N (yl (jQ9 N) 1) ([10] : Str) (([10] : Str).length : Int)) N ((((⟨[], 0, [], (⟨[], 0, 0, 0, 0⟩ : jJc), []⟩ : GShip), 0, 0), none), qW3 s) = _ from hr, bS, Sum.elim_inl]
  have ey : yl (jQ9 N) 1 ((s, 2, (k : Int)), none) [] = some (((s, 2, (k : Int)), some 0), false) := rfl
  rw [ey, bS, bS]
  rfl
theorem qV8 {N : Nat} {s : GShip} (hc : jWd N s = some 0) (h : jC8 s) (hN : 2 ^ 64 ≤ N) : jHp N (qW3 s) = some (s, 0, 0) := by
  have ht := qVl h
  unfold jHp
  rw [jKp, dF (by omega), cnF, qVp h hN, bS, hc, bS]
  rfl
/- a ship is the same as itself -/
theorem jC9 {N : Nat} {l : List Int} (hl : l.length < 1000000) (hN : 2 ^ 64 ≤ N) : jG5 N l l = some true := by
  unfold jG5
  rw [jYp, dT rfl, Bool.not_true, cnF]
  rw [jU8 (f := jY7 N l l) (e := fun _ => 0) (n := l.length) (fin := Sum.inl ()) (err := fun z => Sum.inr false) (fun i hi _ => by
    unfold jY7
    simp only [jQe]
    rw [dT (by omega), cnT, qJn hi, bS, bS, jYp, dT rfl, jN9 (by omega)]; rfl) (fun _ => by
    unfold jY7
    simp only [jQe]
    rw [dF (by omega)]; rfl) (by omega), jDw]
  rfl
theorem jAq (l : jJc) : jJc.eqb l l = true := by
  unfold jJc.eqb; simp
theorem qY4 {N : Nat} {s : GShip} (ht : Tame s) (hN : 2 ^ 64 ≤ N) : jHt N s s = some true := by
  have h1 := ht.st
  have h2 := ht.it
  unfold jHt
  rw [jAq, jRb, dT rfl]
  simp only [jYp, decide_true, Bool.not_true, Bool.or_self, cnF]
  rw [jU8 (f := jYh N s s) (e := fun _ => 0) (n := s.Stations.length) (fin := Sum.inl ()) (err := fun z => Sum.inr false) (fun i hi _ => by
    unfold jYh
    simp only [jQe, jYp]
    rw [dT (by omega), cnT, qJn hi, bS, bS, dT rfl, dT rfl, jC9 (ht.lv i hi) hN, jC9 (ht.hv i hi) hN, jN9 (by omega)]; rfl) (fun _ => by
    unfold jYh
    simp only [jQe]
    rw [dF (by omega)]; rfl) (by omega), jDw, bS]
  rw [show jFz (Sum.inl ()) (fun z => Sum.inr false) 0 = (Sum.inl () : Unit ⊕ Bool) from rfl, Sum.elim_inl, jU8 (f := jYm N s s) (e := fun _ => 0) (n := s.Items.length) (fin := Sum.inl ()) (err := fun z => Sum.inr false) (fun i hi _ => by
    unfold jYm
    simp only [jQe]
    rw [dT (by omega), cnT, qJn hi, bS, bS, jAq, jN9 (by omega)]; rfl) (fun _ => by
    unfold jYm
    simp only [jQe]
    rw [dF (by omega)]; rfl) (by omega), jDw]
  rfl
end Go.KB
