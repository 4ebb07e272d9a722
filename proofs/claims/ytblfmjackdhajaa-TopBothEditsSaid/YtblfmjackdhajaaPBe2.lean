/- Plain laws of settings: tables, the settings of a table, the keys of tables. No condition. -/
import Derived.Test.YtblfmjackdhajaaPBe1
namespace Go.KB
set_option linter.unusedVariables false
abbrev Tab := List (Str × jJq)
def zS : jJq := ⟨[], false⟩
def gt (T : Tab) (k : Str) : jJq := jQ2 zS T k
def ky (T : Tab) : List Str := T.map (·.1)
theorem jN1 {v : Str} : (⟨v, true⟩ : jJq) ≠ zS := fun e => by have := congrArg jJq.has e; cases this
theorem jD9 {T : Tab} {k : Str} {v : jJq} : k ∉ ky T → jW0 T k v = T ++ [(k, v)] := by
  induction T with
  | nil => intro _; rfl
  | cons p r ih =>
    intro h
    simp only [ky, List.map_cons, List.mem_cons, not_or] at h
    unfold jW0
    rw [dF h.1, cnF, ih h.2]; rfl
theorem jUf {T : Tab} {k : Str} : k ∉ ky T → gt T k = zS := by
  unfold gt
  induction T with
  | nil => intro _; rfl
  | cons p r ih =>
    intro h
    simp only [ky, List.map_cons, List.mem_cons, not_or] at h
    unfold jQ2
    rw [dF h.1, cnF]; exact ih h.2
theorem jTg {T : Tab} {k : Str} {v : jJq} : (ky T).Nodup → (k, v) ∈ T → gt T k = v := by
  unfold gt
  induction T with
  | nil => intro _ h; cases h
  | cons p r ih =>
    intro hn h
    simp only [ky, List.map_cons, List.nodup_cons] at hn
    unfold jQ2
    rcases List.mem_cons.1 h with rfl | h
    · rw [dT rfl, cnT]
    · rw [dF (fun e => hn.1 (by rw [← e]; exact List.mem_map.2 ⟨_, h, rfl⟩)), cnF]; exact ih hn.2 h
theorem qQx {T : Tab} {k : Str} : k ∈ ky T → (k, gt T k) ∈ T := by
  unfold gt
  induction T with
  | nil => intro h; cases h
  | cons p r ih =>
    intro h
    unfold jQ2
    by_cases hp : k = p.1
    · rw [dT hp, cnT, hp]; exact List.mem_cons_self
    · rw [dF hp, cnF]
      simp only [ky, List.map_cons, List.mem_cons] at h
      rcases h with h | h
      · exact absurd h hp
      · exact List.mem_cons_of_mem _ (ih h)
theorem jP9 {T : Tab} {k : Str} (h : gt T k ≠ zS) : k ∈ ky T := Classical.byContradiction fun hc => h (jUf hc)
theorem qJc {T : Tab} {k j : Str} {v : jJq} : gt (jW0 T k v) j = if j = k then v else gt T j := jM1 zS k j v T
theorem jPk {T : Tab} {k : Str} {v : jJq} : ky (jW0 T k v) = ky T ∨ ky (jW0 T k v) = ky T ++ [k] := by
  by_cases h : k ∈ ky T
  · left
    induction T with
    | nil => cases h
    | cons p r ih =>
      unfold jW0
      by_cases hp : k = p.1
      · rw [dT hp, cnT]; rfl
      · rw [dF hp, cnF]
        simp only [ky, List.map_cons, List.mem_cons] at h ⊢
        rcases h with h | h
        · exact absurd h hp
        · congr 1; exact ih h
  · right
    rw [jD9 h]; simp [ky]
theorem qQy {T : Tab} {k : Str} {v : jJq} (h : (ky T).Nodup) : (ky (jW0 T k v)).Nodup := by
  by_cases hk : k ∈ ky T
  · have : ky (jW0 T k v) = ky T := by
      rcases jPk (T := T) (k := k) (v := v) with e | e
      · exact e
      · clear h
        induction T with
        | nil => cases hk
        | cons p r ih =>
          unfold jW0 at e ⊢
          by_cases hp : k = p.1
          · rw [dT hp, cnT]; rfl
          · rw [dF hp, cnF] at e ⊢
            simp only [ky, List.map_cons, List.mem_cons, List.cons_append, List.cons.injEq, true_and] at hk e ⊢
            rcases hk with hk | hk
            · exact absurd hk hp
            · exact ih hk e
    rw [this]; exact h
  · rw [jD9 hk]
    simp only [ky, List.map_append, List.map_cons, List.map_nil]
    rw [List.nodup_append]
    exact ⟨h, by simp, fun a ha b hb => by
      simp only [List.mem_singleton] at hb
      subst hb
      exact fun e => hk (by rw [← e]; exact ha)⟩
theorem mem_mset {T : Tab} {k j : Str} {v : jJq} (h : j ∈ ky (jW0 T k v)) : j = k ∨ j ∈ ky T := by
  rcases jPk (T := T) (k := k) (v := v) with e | e
  · rw [e] at h; exact .inr h
  · rw [e, List.mem_append, List.mem_singleton] at h; exact h.symm
theorem jAa {T : Tab} {k : Str} {v : jJq} : (jW0 T k v).length ≤ T.length + 1 := by
  have h1 : (ky (jW0 T k v)).length = (jW0 T k v).length := List.length_map ..
  have h2 : (ky T).length = T.length := List.length_map ..
  rcases jPk (T := T) (k := k) (v := v) with e | e
  · rw [← h1, e, h2]; omega
  · rw [← h1, e, List.length_append, h2]; simp
theorem jRy {T : Tab} {k : Str} : (jLz T k).Sublist T := by
  induction T with
  | nil => exact List.Sublist.refl _
  | cons p r ih =>
    unfold jLz
    by_cases hp : k = p.1
    · rw [dT hp, cnT]; exact List.sublist_cons_self _ _
    · rw [dF hp, cnF]; exact ih.cons_cons _
theorem qJ2 {T : Tab} {k j : Str} (hn : (ky T).Nodup) : gt (jLz T k) j = if j = k then zS else gt T j := by
  induction T with
  | nil => unfold gt jLz jQ2; split <;> rfl
  | cons p r ih =>
    simp only [ky, List.map_cons, List.nodup_cons] at hn
    unfold jLz
    by_cases hp : k = p.1
    · rw [dT hp, cnT]
      by_cases hj : j = k
      · rw [if_pos hj]; exact jUf (by rw [hj, hp]; exact hn.1)
      · rw [if_neg hj]
        show gt r j = jQ2 zS (p :: r) j
        unfold jQ2
        rw [dF (by rw [← hp]; exact hj), cnF]; rfl
    · rw [dF hp, cnF]
      show jQ2 zS (p :: jLz r k) j = if j = k then zS else jQ2 zS (p :: r) j
      unfold jQ2
      by_cases hj : j = p.1
      · rw [dT hj, cnT, cnT, if_neg (fun e => hp (e.symm.trans hj))]
      · rw [dF hj, cnF, cnF]; exact ih hn.2
/- the table of settings -/
def tb (x : GSetting) : Str × jJq := (x.Key, ⟨x.Value, true⟩)
def jQa (l : Sets) : Tab := l.map tb
theorem jN9 {l : Sets} : ky (jQa l) = l.map (·.Key) := by unfold ky jQa; rw [List.map_map]; rfl
theorem jPv {l : Sets} (h : l.Pairwise (fun a b => a.Key < b.Key)) : (l.map (·.Key)).Nodup := by
  unfold List.Nodup; rw [List.pairwise_map]; exact h.imp fun hab => jLt hab
theorem jFs {l : Sets} (h : l.Pairwise (fun a b => a.Key < b.Key)) : (ky (jQa l)).Nodup := by rw [jN9]; exact jPv h
theorem jUe {N : Nat} {l : Sets} (hs : l.Pairwise (fun a b => a.Key < b.Key)) (hl : l.length < 1000000) (hN : 1000000 ≤ N) : jXc N l = some (jQa l) := by
  unfold jXc
  have key := jBx (f := jZp N l) l.length (fun i => jQa (l.take i)) (jQa l) (fun i hi => ?_) ?_ N (by omega)
  · rw [show (([] : Tab), (0 : Int)) = (jQa (l.take 0), (0 : Int)) from rfl, key]; rfl
  · unfold jZp
    rw [jX8, dT (by omega), cnT, jKm hi, bS, jNe (by omega), List.take_succ_eq_append_getElem hi]
    have hnew : l[i].Key ∉ ky (jQa (l.take i)) := by
      rw [jN9]
      have := jPv hs
      intro hm
      obtain ⟨x, hx, he⟩ := List.mem_map.1 hm
      obtain ⟨j, hj, rfl⟩ := List.getElem_of_mem hx
      rw [List.length_take] at hj
      rw [List.getElem_take] at he
      exact jLt (List.pairwise_iff_getElem.1 hs j i (by omega) hi (by omega)) he
    show some (Sum.inl (jW0 (jQa (l.take i)) l[i].Key ⟨l[i].Value, true⟩, _)) = _
    rw [jD9 hnew]
    unfold jQa
    rw [List.map_append]; rfl
  · unfold jZp
    rw [jX8, dF (by omega), cnF, List.take_length]
theorem jPg {l : Sets} (hs : l.Pairwise (fun a b => a.Key < b.Key)) {k v : Str} : (⟨k, v⟩ : GSetting) ∈ l ↔ gt (jQa l) k = ⟨v, true⟩ := by
  constructor
  · intro h; exact jTg (jFs hs) (List.mem_map.2 ⟨_, h, rfl⟩)
  · intro h
    have hk : k ∈ ky (jQa l) := jP9 (by rw [h]; exact jN1)
    have := qQx hk
    rw [h] at this
    obtain ⟨x, hx, he⟩ := List.mem_map.1 this
    unfold tb at he
    simp only [Prod.mk.injEq, jJq.mk.injEq, and_true] at he
    obtain ⟨h1, h2⟩ := he
    rw [show x = ⟨k, v⟩ from by cases x; cases h1; cases h2; rfl] at hx
    exact hx
theorem jAy {l : Sets} {k : Str} (hk : k ∈ ky (jQa l)) : (gt (jQa l) k).has = true := by
  have := qQx hk
  obtain ⟨x, hx, he⟩ := List.mem_map.1 this
  rw [← (Prod.mk.inj he).2]
theorem jF3 {l : Sets} (k : Str) : gt (jQa l) k = zS ∨ (gt (jQa l) k).has = true := by
  by_cases h : k ∈ ky (jQa l)
  · exact .inr (jAy h)
  · exact .inl (jUf h)
/- two ascending lists with the same members -/
theorem jCf : ∀ {l m : Sets}, l.Pairwise (fun a b => a.Key < b.Key) → m.Pairwise (fun a b => a.Key < b.Key) → (∀ x, x ∈ l ↔ x ∈ m) → l = m := by
  intro l
  induction l with
  | nil =>
    intro m _ _ h
    cases m with
    | nil => rfl
    | cons y r => exact absurd ((h y).2 List.mem_cons_self) (by simp)
  | cons x r ih =>
    intro m hl hm h
    cases m with
    | nil => exact absurd ((h x).1 List.mem_cons_self) (by simp)
    | cons y t =>
      have hx := List.pairwise_cons.1 hl
      have hy := List.pairwise_cons.1 hm
      have : x = y := by
        rcases List.mem_cons.1 ((h x).1 List.mem_cons_self) with e | e
        · exact e
        · rcases List.mem_cons.1 ((h y).2 List.mem_cons_self) with e2 | e2
          · exact e2.symm
          · exact absurd (List.lt_trans (hy.1 x e) (hx.1 y e2)) (List.lt_irrefl _)
      subst this
      congr 1
      refine ih hx.2 hy.2 fun z => ?_
      constructor
      · intro hz
        rcases List.mem_cons.1 ((h z).1 (List.mem_cons_of_mem _ hz)) with e | e
        · subst e; exact absurd (hx.1 z hz) (List.lt_irrefl _)
        · exact e
      · intro hz
        rcases List.mem_cons.1 ((h z).2 (List.mem_cons_of_mem _ hz)) with e | e
        · subst e; exact absurd (hy.1 z hz) (List.lt_irrefl _)
        · exact e
/- sorting settings by their keys -/
def cmpK (x y : GSetting) : Option Int := some (Lib.compareBytes x.Key y.Key)
theorem jTj {x y : GSetting} : ltC cmpK x y = decide (x.Key < y.Key) := by
  show decide (Lib.compareBytes x.Key y.Key < 0) = _
  exact decide_eq_decide.2 (jTb _ _)
theorem sortK {l : Sets} (hn : (l.map (·.Key)).Nodup) (hl : l.length ≤ 1000000) : ∃ r, jM4 cmpK l = some r ∧ r.Pairwise (fun a b => a.Key < b.Key) ∧ ∀ x, x ∈ r ↔ x ∈ l := by
  have hinj : ∀ x ∈ l, ∀ y ∈ l, x.Key = y.Key → x = y := by
    intro x hx y hy e
    obtain ⟨i, hi, rfl⟩ := List.getElem_of_mem hx
    obtain ⟨j, hj, rfl⟩ := List.getElem_of_mem hy
    have hij : i = j := by
      have := (List.getElem_inj (h₀ := by simpa using hi) (h₁ := by simpa using hj) hn).1 (by simpa using e)
      exact this
    subst hij; rfl
  have hso : jDx cmpK l := ⟨fun x _ y _ => ⟨_, rfl⟩, fun x _ => by rw [jTj, dF (List.lt_irrefl _)], fun x _ y _ z _ h1 h2 => by
      rw [jTj] at h1 h2 ⊢; exact dT (List.lt_trans (of_decide_eq_true h1) (of_decide_eq_true h2)),
    fun x _ y _ z _ h1 h2 => by
      rw [jTj] at h1 h2 ⊢
      exact dF (fun h => by
        have h1' := List.not_lt.1 (of_decide_eq_false h1); have h2' := List.not_lt.1 (of_decide_eq_false h2)
        exact (List.not_lt.2 (jFx _ _ _ h2' h1')) h),
    fun x hx y hy h1 h2 => by
      rw [jTj] at h1 h2
      exact hinj x hx y hy (jGz _ _ (List.not_lt.1 (of_decide_eq_false h2)) (List.not_lt.1 (of_decide_eq_false h1)))⟩
  refine ⟨_, jSg hso hl, ?_, fun x => (jKq cmpK l).mem_iff⟩
  have hp := jB3 hso l (fun x h => h)
  have hnd : ((jHb cmpK l).map (·.Key)).Nodup := ((jKq cmpK l).map _).nodup_iff.2 hn
  unfold List.Nodup at hnd
  rw [List.pairwise_map] at hnd
  refine (hp.and hnd).imp fun {a b} h => ?_
  rw [jTj] at h
  exact jCw (List.not_lt.1 (of_decide_eq_false h.1)) h.2
/- the settings of a table -/
def jS8 (q : Tab) : Sets := (q.filter (·.2.has)).map fun p => ⟨p.1, p.2.value⟩
theorem jMp {α : Type} {xs ys : List α} (h : xs.length + ys.length ≤ 1000000) : app xs ys = some (xs ++ ys) := by
  unfold app
  rw [show Nat.ble (xs.length + ys.length) lim = true from by rw [Nat.ble_eq]; exact Nat.le_trans h (by decide)]; rfl
theorem jL3 {N : Nat} : ∀ (q : Tab) (acc : Sets), acc.length + q.length ≤ 100000 → jD6 (jQt N) q acc = some (acc ++ jS8 q)
  | [], acc, _ => by simp [jD6, jS8]
  | p :: r, acc, h => by
    simp only [List.length_cons] at h
    unfold jD6
    cases hp : p.2.has with
    | true =>
      have : jQt N acc p = some (acc ++ [⟨p.1, p.2.value⟩]) := by
        unfold jQt
        rw [hp, cnT, jMp (by simp; omega)]; rfl
      rw [this, bS, jL3 r _ (by simp; omega)]
      simp [jS8, hp]
    | false =>
      have : jQt N acc p = some acc := by
        unfold jQt
        rw [hp, cnF]
      rw [this, bS, jL3 r _ (by omega)]
      simp [jS8, hp]
theorem jS5 {N : Nat} {T : Tab} (hn : (ky T).Nodup) (hl : T.length ≤ 100000) :
    ∃ r, jXn N T = some r ∧ r.Pairwise (fun a b => a.Key < b.Key) ∧ (∀ k v, (⟨k, v⟩ : GSetting) ∈ r ↔ gt T k = ⟨v, true⟩) ∧ ∀ x ∈ r, x.Key ∈ ky T := by
  have hmem : ∀ q : Tab, q.Perm T → ∀ x : GSetting, x ∈ jS8 q ↔ gt T x.Key = ⟨x.Value, true⟩ := by
    intro q hq x
    unfold jS8
    rw [List.mem_map]
    constructor
    · rintro ⟨p, hp, rfl⟩
      rw [List.mem_filter] at hp
      have := jTg hn (k := p.1) (v := p.2) (hq.mem_iff.1 hp.1)
      rw [this, ← hp.2]
    · intro h
      have hk : x.Key ∈ ky T := jP9 (by rw [h]; exact jN1)
      have := qQx hk
      rw [h] at this
      exact ⟨_, List.mem_filter.2 ⟨hq.mem_iff.2 this, rfl⟩, rfl⟩
  have hnd : ∀ q : Tab, q.Perm T → ((jS8 q).map (·.Key)).Nodup := by
    intro q hq
    unfold jS8
    rw [List.map_map]
    have h1 : (ky q).Nodup := (hq.map _).nodup_iff.2 hn
    exact (List.Sublist.map (fun p : Str × jJq => p.1) (List.filter_sublist (p := fun p : Str × jJq => p.2.has) (l := q))).nodup h1
  have hrun : ∀ q : Tab, q.Perm T → ∃ r, ((jD6 (jQt N) q []).bind fun s2 => (jQ0 N s2 (fun y0 y1 => jXp N y0 y1)).bind fun v7 => some v7) = some r ∧ r.Pairwise (fun a b => a.Key < b.Key) ∧ ∀ x : GSetting, x ∈ r ↔ gt T x.Key = ⟨x.Value, true⟩ := by
    intro q hq
    have hql : q.length = T.length := hq.length_eq
    have hol : (jS8 q).length ≤ 1000000 := by
      unfold jS8; rw [List.length_map]
      exact Nat.le_trans (List.length_filter_le _ _) (by omega)
    rw [jL3 q [] (by simp; omega), bS, List.nil_append]
    obtain ⟨r, h1, h2, h3⟩ := sortK (hnd q hq) hol
    refine ⟨r, ?_, h2, fun x => (h3 x).trans (hmem q hq x)⟩
    show ((jM4 cmpK (jS8 q)).bind fun v7 => some v7) = _
    rw [h1]; rfl
  obtain ⟨r, h1, h2, h3⟩ := hrun T (List.Perm.refl _)
  refine ⟨r, ?_, h2, fun k v => h3 ⟨k, v⟩, fun x hx => jP9 (by rw [(h3 x).1 hx]; exact jN1)⟩
  unfold jXn
  refine jG6 fun q hq => ?_
  obtain ⟨r', h1', h2', h3'⟩ := hrun q hq
  rw [h1', jCf h2 h2' fun x => (h3 x).trans (h3' x).symm]
/- the keys of tables -/
theorem jBc {l : List Str} : (jWc l).Pairwise (· ≤ ·) := by
  have := List.pairwise_mergeSort (le := fun x y : Str => decide (x ≤ y)) (fun a b c h1 h2 => decide_eq_true (jFx a b c (of_decide_eq_true h1) (of_decide_eq_true h2))) (fun a b => by
    rcases jTk a b with h | h <;> simp [h]) l
  exact this.imp fun h => of_decide_eq_true h
theorem jPl {l : List Str} {x : Str} : x ∈ jWc l ↔ x ∈ l := (List.mergeSort_perm _ _).mem_iff
theorem jDe {l m : List Str} (hp : l.Perm m) : jWc l = jWc m :=
  List.Perm.eq_of_pairwise (le := fun a b : Str => a ≤ b) (fun a b _ _ h1 h2 => jGz a b h1 h2) jBc jBc (((List.mergeSort_perm _ _).trans hp).trans (List.mergeSort_perm _ _).symm)
theorem jAr {zs : List Str} {x : Str} : x ∈ Lib.compact zs ↔ x ∈ zs := by
  unfold Lib.compact Lib.compactUpTo
  rw [List.mem_map]
  constructor
  · rintro ⟨j, hj, rfl⟩
    rw [List.mem_filter, List.mem_range] at hj
    simp [hj.1]
  · intro hx
    have key : ∀ j, ∀ h : j < zs.length, ∃ i, i ≤ j ∧ zs.toArray[i]! = zs[j] ∧ Lib.keeps zs.toArray i = true := by
      intro j
      induction j with
      | zero => intro h; exact ⟨0, Nat.le_refl _, by simp [h], by simp [Lib.keeps]⟩
      | succ j ih =>
        intro h
        by_cases he : zs[j + 1] = zs[j]
        · obtain ⟨i, h1, h2, h3⟩ := ih (by omega)
          exact ⟨i, by omega, by rw [he]; exact h2, h3⟩
        · refine ⟨j + 1, Nat.le_refl _, by simp [h], ?_⟩
          unfold Lib.keeps
          rw [decide_eq_true_eq]
          right
          simp [h, show j < zs.length by omega]
          exact he
    obtain ⟨j, hj, rfl⟩ := List.getElem_of_mem hx
    obtain ⟨i, h1, h2, h3⟩ := key j hj
    exact ⟨i, by rw [List.mem_filter, List.mem_range]; exact ⟨by omega, h3⟩, h2⟩
theorem jAg {zs : List Str} (hs : zs.Pairwise (· ≤ ·)) : (Lib.compact zs).Pairwise (· < ·) := by
  unfold Lib.compact Lib.compactUpTo
  rw [List.pairwise_map]
  have h0 : (List.range zs.length).Pairwise (· < ·) := List.pairwise_lt_range
  refine ((h0.filter _).imp_of_mem ?_)
  intro i j hi hj hij
  rw [List.mem_filter, List.mem_range] at hi hj
  have hk : zs.toArray[j]! ≠ zs.toArray[j - 1]! := by
    have := hj.2
    unfold Lib.keeps at this
    rw [decide_eq_true_eq] at this
    rcases this with h | h
    · omega
    · exact h
  have e1 : zs.toArray[i]! = zs[i]'hi.1 := by simp [hi.1]
  have e2 : zs.toArray[j]! = zs[j]'hj.1 := by simp [hj.1]
  have e3 : zs.toArray[j - 1]! = zs[j - 1]'(by omega) := by simp [show j - 1 < zs.length by omega]
  rw [e2, e3] at hk
  rw [e1, e2]
  have a1 : zs[j - 1]'(by omega) ≤ zs[j]'hj.1 := List.pairwise_iff_getElem.1 hs (j - 1) j (by omega) hj.1 (by omega)
  have a2 : zs[i]'hi.1 ≤ zs[j - 1]'(by omega) := by
    by_cases h : i = j - 1
    · subst h; exact List.le_refl _
    · exact List.pairwise_iff_getElem.1 hs i (j - 1) hi.1 (by omega) (by omega)
  exact jCw (jFx _ _ _ a2 a1) fun e => hk (jGz _ _ (by rw [← e]; exact a2) a1)
def ksL (l : List Str) : List Str := Lib.compact (jWc l)
theorem jT8 {l : List Str} {x : Str} : x ∈ ksL l ↔ x ∈ l := jAr.trans jPl
theorem jS4 {l : List Str} : (ksL l).Pairwise (· < ·) := jAg jBc
theorem jR7 {l : List Str} : (ksL l).length ≤ l.length := Nat.le_trans jF5 (by unfold jWc; rw [List.length_mergeSort]; exact Nat.le_refl _)
theorem jDu {f : List Str → (Str × jJq) → Option (List Str)} (hf : ∀ s p, f s p = (app s [p.1]).bind fun v => some v) : ∀ (q : Tab) (acc : List Str), acc.length + q.length ≤ 100000 → jD6 f q acc = some (acc ++ ky q)
  | [], acc, _ => by simp [jD6, ky]
  | p :: r, acc, h => by
    simp only [List.length_cons] at h
    unfold jD6
    rw [hf, jMp (by simp; omega), bS, bS, jDu hf r _ (by simp; omega)]
    simp [ky]
theorem jAw {N : Nat} {x y : Tab} (hx : x.length ≤ 10000) (hy : y.length ≤ 10000) : jWz N x y = some (ksL (ky x ++ ky y)) := by
  unfold jWz
  refine jG6 fun q hq => ?_
  have h1 : q.length = x.length := hq.length_eq
  rw [jDu (f := jV9 N) (fun _ _ => rfl) q [] (by simp; omega), bS, List.nil_append]
  refine jG6 fun r hr => ?_
  have h2 : r.length = y.length := hr.length_eq
  have hk : (ky q).length = q.length := List.length_map ..
  have hk2 : (ky r).length = r.length := List.length_map ..
  rw [jDu (f := jZc N) (fun _ _ => rfl) r _ (by omega), bS]
  show ((jPb _).bind fun v11 => (jPh v11).bind fun v12 => some v12) = _
  unfold jPb
  rw [show Nat.ble (ky q ++ ky r).length 1000000 = true from by rw [Nat.ble_eq, List.length_append]; omega, cnT, bS]
  unfold jPh
  rw [show Nat.ble (jWc (ky q ++ ky r)).length 1000000 = true from by rw [Nat.ble_eq]; unfold jWc; rw [List.length_mergeSort, List.length_append]; omega, cnT, bS]
  unfold ksL
  rw [show jWc (ky q ++ ky r) = jWc (ky x ++ ky y) from jDe (List.Perm.append (hq.map _) (hr.map _))]
theorem jC9 {N : Nat} {x y z : Tab} (hx : x.length ≤ 10000) (hy : y.length ≤ 10000) (hz : z.length ≤ 10000) : jWy N x y z = some (ksL (ky x ++ ky y ++ ky z)) := by
  unfold jWy
  refine jG6 fun q hq => ?_
  have h1 : q.length = x.length := hq.length_eq
  rw [jDu (f := jWj N) (fun _ _ => rfl) q [] (by simp; omega), bS, List.nil_append]
  refine jG6 fun r hr => ?_
  have h2 : r.length = y.length := hr.length_eq
  have hk : (ky q).length = q.length := List.length_map ..
  have hk2 : (ky r).length = r.length := List.length_map ..
  rw [jDu (f := jZe N) (fun _ _ => rfl) r _ (by omega), bS]
  refine jG6 fun s hs => ?_
  have h3 : s.length = z.length := hs.length_eq
  have hk3 : (ky s).length = s.length := List.length_map ..
  rw [jDu (f := jX3 N) (fun _ _ => rfl) s _ (by rw [List.length_append]; omega), bS]
  show ((jPb _).bind fun v11 => (jPh v11).bind fun v12 => some v12) = _
  unfold jPb
  rw [show Nat.ble (ky q ++ ky r ++ ky s).length 1000000 = true from by rw [Nat.ble_eq, List.length_append, List.length_append]; omega, cnT, bS]
  unfold jPh
  rw [show Nat.ble (jWc (ky q ++ ky r ++ ky s)).length 1000000 = true from by rw [Nat.ble_eq]; unfold jWc; rw [List.length_mergeSort, List.length_append, List.length_append]; omega, cnT, bS]
  unfold ksL
  rw [show jWc (ky q ++ ky r ++ ky s) = jWc (ky x ++ ky y ++ ky z) from jDe (List.Perm.append (List.Perm.append (hq.map _) (hr.map _)) (hs.map _))]
end Go.KB
