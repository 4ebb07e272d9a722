/- Plain laws of settings: differences, merges, edits that are done. No condition. -/
import Derived.Test.YtblfmjackdhajaaPBe2
namespace Go.KB
set_option linter.unusedVariables false
instance : DecidableEq jJq
  | ⟨a, b⟩, ⟨a', b'⟩ => if h : a = a' ∧ b = b' then isTrue (by obtain ⟨rfl, rfl⟩ := h; rfl) else isFalse (fun e => by cases e; exact h ⟨rfl, rfl⟩)
theorem jDw (x y : jJq) : jJq.eqb x y = decide (x = y) := by
  cases x; cases y; unfold jJq.eqb
  rw [Bool.eq_iff_iff]; simp
theorem qQn (x y : GSetting) : GSetting.eqb x y = decide (x.Key = y.Key ∧ x.Value = y.Value) := by
  unfold GSetting.eqb
  rw [Bool.eq_iff_iff]; simp
instance : Inhabited jQp := ⟨⟨[], [], [], false, false⟩⟩
instance : DecidableEq jQp
  | ⟨a, b, c, d, e⟩, ⟨a', b', c', d', e'⟩ => if h : a = a' ∧ b = b' ∧ c = c' ∧ d = d' ∧ e = e' then isTrue (by obtain ⟨rfl, rfl, rfl, rfl, rfl⟩ := h; rfl) else isFalse (fun e => by cases e; exact h ⟨rfl, rfl, rfl, rfl, rfl⟩)
theorem jAq (x y : jQp) : jQp.eqb x y = decide (x = y) := by
  cases x; cases y; unfold jQp.eqb
  rw [Bool.eq_iff_iff]; simp
theorem jTc {S O : Type} {n N : Nat} {f : S → Option (S ⊕ O)} (g : Nat → S) (r : O) (h : ∀ i : Nat, i < n → f (g i) = some (.inl (g (i + 1)))) (he : f (g n) = some (.inr r)) (hN : n < N) : jZl f N (g 0) = some r := by
  have key : ∀ k i, i + k = n → ∀ M, k < M → jZl f M (g i) = some r := by
    intro k
    induction k with
    | zero =>
      intro i hi M hM
      obtain ⟨M, rfl⟩ : ∃ m, M = m + 1 := ⟨M - 1, by omega⟩
      have : i = n := by omega
      subst this
      simp only [jZl, he]
    | succ k ih =>
      intro i hi M hM
      obtain ⟨M, rfl⟩ : ∃ m, M = m + 1 := ⟨M - 1, by omega⟩
      simp only [jZl, h i (by omega)]
      exact ih (i + 1) (by omega) M (by omega)
  exact key n 0 (by omega) N hN
theorem qJp {N : Nat} {l : List Sets} (h : ∀ x ∈ l, OkS x) (hl : l.length ≤ 10) (hN : 1000000 ≤ N) : jVv N l = some 0 := by
  unfold jVv
  have := jF2 (f := jZd N l) (e := fun _ => 0) (n := l.length) (N := N) (fun i hi hz => ?_) (fun hz => ?_) (by omega)
  · rw [jDa] at this; exact this
  · unfold jZd
    rw [jX8, dT (by omega), cnT, jKm hi, bS, qJw hN, bS, jNb.2 (h _ (List.getElem_mem hi)), jUh, dT rfl, jNe (by omega), if_pos rfl]; rfl
  · unfold jZd
    rw [jX8, dF (by omega), cnF]
/- differences -/
def edS (A B : Tab) (k : Str) : jQp := ⟨k, (gt A k).value, (gt B k).value, (gt A k).has, (gt B k).has⟩
def dfK (A B : Tab) (K : List Str) : List jQp := (K.filter fun k => !decide (gt A k = gt B k)).map (edS A B)
def dfL (a b : Sets) : List jQp := dfK (jQa a) (jQa b) (ksL (ky (jQa a) ++ ky (jQa b)))
theorem jYe {l : Sets} : (jQa l).length = l.length := List.length_map ..
theorem jBn {T : Tab} : (ky T).length = T.length := List.length_map ..
theorem jTp {A B : Tab} {K : List Str} : (dfK A B K).length ≤ K.length := by unfold dfK; rw [List.length_map]; exact List.length_filter_le _ _
theorem jT7 {N : Nat} {a b : Sets} (ha : OkS a) (hb : OkS b) (hN : 1000000 ≤ N) : jYf N a b = some (dfL a b, 0) := by
  unfold jYf
  have h60a := ha.len
  have h60b := hb.len
  rw [qJp (fun x hx => by
    simp only [List.mem_cons, List.not_mem_nil, or_false] at hx
    rcases hx with rfl | rfl
    · exact ha
    · exact hb) (by simp) hN, bS, jUh, dT rfl, Bool.not_true, cnF, jUe ha.so (by omega) hN, bS, jUe hb.so (by omega) hN, bS,
    jAw (by rw [jYe]; omega) (by rw [jYe]; omega), bS]
  have hK : (ksL (ky (jQa a) ++ ky (jQa b))).length ≤ 120 := by
    have := jR7 (l := ky (jQa a) ++ ky (jQa b))
    rw [List.length_append, jBn, jBn, jYe, jYe] at this
    omega
  unfold dfL
  generalize ksL (ky (jQa a) ++ ky (jQa b)) = K at hK ⊢
  generalize jQa a = A
  generalize jQa b = B
  have key := jBx (f := jVt N A B K) K.length (fun i => dfK A B (K.take i)) (dfK A B K) (fun i hi => ?_) ?_ N (by omega)
  · rw [show (([] : List jQp), (0 : Int)) = (dfK A B (K.take 0), (0 : Int)) from rfl, key]; rfl
  · have hl := jTp (A := A) (B := B) (K := K.take i)
    rw [List.length_take] at hl
    unfold jVt
    rw [jX8, dT (by omega), cnT, jKm hi, bS, jDw, jNe (by omega)]
    show (bif !decide (gt A K[i] = gt B K[i]) then _ else _) = _
    rw [List.take_succ_eq_append_getElem hi]
    cases h : decide (gt A K[i] = gt B K[i]) with
    | true =>
      rw [Bool.not_true, cnF]
      unfold dfK
      rw [List.filter_append, List.map_append, List.filter_cons, h]; simp
    | false =>
      rw [Bool.not_false, cnT, jMp (by simp; omega), bS]
      unfold dfK
      rw [List.filter_append, List.map_append, List.filter_cons, h]; rfl
  · unfold jVt
    rw [jX8, dF (by omega), cnF, List.take_length]
theorem jD0 {a b : Sets} {e : jQp} : e ∈ dfL a b ↔ gt (jQa a) e.Key ≠ gt (jQa b) e.Key ∧ e = edS (jQa a) (jQa b) e.Key := by
  unfold dfL dfK
  rw [List.mem_map]
  constructor
  · rintro ⟨k, hk, rfl⟩
    rw [List.mem_filter] at hk
    refine ⟨fun h => ?_, rfl⟩
    have := hk.2
    rw [dT (show gt (jQa a) k = gt (jQa b) k from h)] at this; cases this
  · rintro ⟨h1, h2⟩
    refine ⟨e.Key, List.mem_filter.2 ⟨jT8.2 ?_, by rw [dF h1]; rfl⟩, h2.symm⟩
    rw [List.mem_append]
    by_cases hA : e.Key ∈ ky (jQa a)
    · exact .inl hA
    · by_cases hB : e.Key ∈ ky (jQa b)
      · exact .inr hB
      · exact absurd ((jUf hA).trans (jUf hB).symm) h1
theorem qJy {a b : Sets} : (dfL a b).Pairwise (fun x y => x.Key < y.Key) := by
  unfold dfL dfK
  rw [List.pairwise_map]
  exact jS4.filter _
theorem jCx {a b : Sets} (ha : OkS a) (hb : OkS b) : (dfL a b).length ≤ 120 := by
  have h1 := ha.len
  have h2 := hb.len
  have := jR7 (l := ky (jQa a) ++ ky (jQa b))
  rw [List.length_append, jBn, jBn, jYe, jYe] at this
  exact Nat.le_trans jTp (by omega)
/- merges -/
def mgS (B L R : Tab) (k : Str) : jJq := bif decide (gt L k = gt R k) || decide (gt R k = gt B k) then gt L k else bif decide (gt L k = gt B k) then gt R k else gt B k
def cfS (B L R : Tab) (k : Str) : Bool := !(decide (gt L k = gt R k) || decide (gt R k = gt B k) || decide (gt L k = gt B k))
def mgT (B L R : Tab) (K : List Str) : Tab := K.map fun k => (k, mgS B L R k)
theorem jP5 {B L R : Tab} {K : List Str} : ky (mgT B L R K) = K := by unfold ky mgT; rw [List.map_map]; exact List.map_id' K
theorem qQh {N : Nat} {B L R : Tab} {K : List Str} (hK : K.Pairwise (· < ·)) (hl : K.length ≤ 1000) (hN : 1000000 ≤ N) :
    jZl (jZs N B L R K) N ([], 0, ([] : Tab)) = some (K.filter (cfS B L R), mgT B L R K) := by
  have key := jTc (f := jZs N B L R K) (n := K.length) (N := N) (fun i => ((K.take i).filter (cfS B L R), (i : Int), mgT B L R (K.take i))) (K.filter (cfS B L R), mgT B L R K) (fun i hi => ?_) ?_ (by omega)
  · exact key
  · have hnew : K[i] ∉ ky (mgT B L R (K.take i)) := by
      rw [jP5]
      intro hm
      obtain ⟨j, hj, he⟩ := List.getElem_of_mem hm
      rw [List.length_take] at hj
      rw [List.getElem_take] at he
      exact jLt (List.pairwise_iff_getElem.1 hK j i (by omega) hi (by omega)) he
    have hset : ∀ v, jW0 (mgT B L R (K.take i)) K[i] v = mgT B L R (K.take i) ++ [(K[i], v)] := fun v => jD9 hnew
    have hfl : ((K.take i).filter (cfS B L R)).length ≤ 1000 := Nat.le_trans (List.length_filter_le _ _) (by rw [List.length_take]; omega)
    have hnext : mgT B L R (K.take (i + 1)) = mgT B L R (K.take i) ++ [(K[i], mgS B L R K[i])] := by
      rw [List.take_succ_eq_append_getElem hi]; unfold mgT; rw [List.map_append]; rfl
    have hconf : (K.take (i + 1)).filter (cfS B L R) = (K.take i).filter (cfS B L R) ++ (bif cfS B L R K[i] then [K[i]] else []) := by
      rw [List.take_succ_eq_append_getElem hi, List.filter_append, List.filter_cons]
      cases cfS B L R K[i] <;> rfl
    rw [hnext, hconf]
    unfold jZs
    dsimp only
    rw [jX8, dT (by omega), cnT, jKm hi, bS, jDw, jDw, jDw, jNe (by omega), hset, hset, hset]
    show (bif decide (gt L K[i] = gt R K[i]) || decide (gt R K[i] = gt B K[i]) then _ else _) = _
    unfold mgS cfS
    cases h1 : (decide (gt L K[i] = gt R K[i]) || decide (gt R K[i] = gt B K[i])) with
    | true => simp only [cnT, Bool.true_or, Bool.not_true, cnF, List.append_nil]; rfl
    | false =>
      simp only [cnF, Bool.false_or]
      show (bif decide (gt L K[i] = gt B K[i]) then _ else _) = _
      cases h2 : decide (gt L K[i] = gt B K[i]) with
      | true => simp only [cnT, Bool.not_true, cnF, List.append_nil]; rfl
      | false =>
        simp only [cnF, Bool.not_false, cnT]
        rw [jMp (by have := hfl; unfold cfS at this; simp only [List.length_cons, List.length_nil]; omega)]; rfl
  · unfold jZs
    dsimp only
    rw [jX8, dF (by omega), cnF, List.take_length]
theorem jL1 {α : Type} [DecidableEq α] : ∀ {l m : List α}, l.Nodup → (∀ x ∈ l, x ∈ m) → l.length ≤ m.length := by
  intro l
  induction l with
  | nil => intro m _ _; exact Nat.zero_le _
  | cons x r ih =>
    intro m hn h
    obtain ⟨h1, h2⟩ := List.nodup_cons.1 hn
    have hx := h x List.mem_cons_self
    have := ih (m := m.erase x) h2 fun y hy => by
      have hne : y ≠ x := fun e => h1 (e ▸ hy)
      exact (List.mem_erase_of_ne hne).2 (h y (List.mem_cons_of_mem _ hy))
    rw [List.length_erase_of_mem hx] at this
    have := List.length_pos_of_mem hx
    simp only [List.length_cons]
    omega
theorem jRd {r : Sets} {K : List Str} (hs : r.Pairwise (fun a b => a.Key < b.Key)) (hk : ∀ x ∈ r, x.Key ∈ K) : r.length ≤ K.length := by
  have := jL1 (jPv hs) (m := K) fun k hk' => by
    obtain ⟨x, hx, rfl⟩ := List.mem_map.1 hk'
    exact hk x hx
  rwa [List.length_map] at this
theorem jAn {N : Nat} {b l r : Sets} (hb : OkS b) (hl : OkS l) (hr : OkS r) (h60 : b.length + l.length + r.length ≤ 60) (hN : 1000000 ≤ N) :
    ∃ m, jY1 N b l r = some (m, (ksL (ky (jQa b) ++ ky (jQa l) ++ ky (jQa r))).filter (cfS (jQa b) (jQa l) (jQa r)), 0) ∧ m.Pairwise (fun x y => x.Key < y.Key) ∧
      ∀ k v, (⟨k, v⟩ : GSetting) ∈ m ↔ mgS (jQa b) (jQa l) (jQa r) k = ⟨v, true⟩ := by
  have hK : (ksL (ky (jQa b) ++ ky (jQa l) ++ ky (jQa r))).length ≤ 60 := by
    have := jR7 (l := ky (jQa b) ++ ky (jQa l) ++ ky (jQa r))
    rw [List.length_append, List.length_append, jBn, jBn, jBn, jYe, jYe, jYe] at this
    omega
  have hnd : (ky (mgT (jQa b) (jQa l) (jQa r) (ksL (ky (jQa b) ++ ky (jQa l) ++ ky (jQa r))))).Nodup := by
    rw [jP5]; exact jS4.imp fun h => jLt h
  obtain ⟨m, h1, h2, h3, h4⟩ := jS5 (N := N) hnd (by unfold mgT; rw [List.length_map]; omega)
  refine ⟨m, ?_, h2, fun k v => (h3 k v).trans ?_⟩
  · unfold jY1
    rw [qJp (fun x hx => by
      simp only [List.mem_cons, List.not_mem_nil, or_false] at hx
      rcases hx with rfl | rfl | rfl
      · exact hb
      · exact hl
      · exact hr) (by simp) hN, bS, jUh, dT rfl, Bool.not_true, cnF, jUe hb.so (by omega) hN, bS, jUe hl.so (by omega) hN, bS, jUe hr.so (by omega) hN, bS,
      jC9 (by rw [jYe]; omega) (by rw [jYe]; omega) (by rw [jYe]; omega), bS, qQh jS4 (by omega) hN, bS, h1, bS, jYg]
    have := jRd h2 fun x hx => by have := h4 x hx; rwa [jP5] at this
    rw [dF (by omega), cnF]
  · by_cases hk : k ∈ ksL (ky (jQa b) ++ ky (jQa l) ++ ky (jQa r))
    · rw [jTg hnd (v := mgS (jQa b) (jQa l) (jQa r) k) (List.mem_map.2 ⟨k, hk, rfl⟩)]
    · have hk' : ¬ k ∈ ky (jQa b) ++ ky (jQa l) ++ ky (jQa r) := fun h => hk (jT8.2 h)
      simp only [List.mem_append, not_or] at hk'
      rw [jUf (by rw [jP5]; exact hk)]
      unfold mgS
      rw [jUf hk'.1.1, jUf hk'.1.2, jUf hk'.2, dT rfl]
      exact Iff.rfl
/- edits that are done -/
structure EdOk (T : Tab) (E : List jQp) : Prop where
  len : E.length ≤ 120
  so : E.Pairwise (fun x y => x.Key < y.Key)
  nm : ∀ e ∈ E, jYl e.Key = true
  ov : ∀ e ∈ E, jH0 e.Old = true
  nv : ∀ e ∈ E, jH0 e.New = true
  o0 : ∀ e ∈ E, e.Had = false → e.Old = []
  n0 : ∀ e ∈ E, e.Has = false → e.New = []
  on : ∀ e ∈ E, e.Had = true ∨ e.Has = true
  at_ : ∀ e ∈ E, gt T e.Key = ⟨e.Old, e.Had⟩
def jSr (T : Tab) (e : jQp) : Tab := bif e.Has then jW0 T e.Key ⟨e.New, true⟩ else jLz T e.Key
def jDs (T : Tab) (E : List jQp) : Tab := E.foldl jSr T
theorem jMv {T : Tab} {e : jQp} (h : (ky T).Nodup) : (ky (jSr T e)).Nodup := by
  unfold jSr
  cases e.Has with
  | true => exact qQy h
  | false => exact (List.Sublist.map _ jRy).nodup h
theorem jTe {T : Tab} {e : jQp} (h : (ky T).Nodup) (hn : e.Has = false → e.New = []) (k : Str) : gt (jSr T e) k = if k = e.Key then ⟨e.New, e.Has⟩ else gt T k := by
  unfold jSr
  cases hh : e.Has with
  | true => rw [cnT, qJc]
  | false => rw [cnF, qJ2 h, hn hh]; rfl
theorem jAb {T : Tab} {e : jQp} : (jSr T e).length ≤ T.length + 1 := by
  unfold jSr
  cases e.Has with
  | true => exact jAa
  | false => exact Nat.le_trans jRy.length_le (Nat.le_succ _)
theorem jTt : ∀ {E : List jQp} {T : Tab}, (ky T).Nodup → (ky (jDs T E)).Nodup
  | [], _, h => h
  | e :: r, _, h => jTt (E := r) (jMv h)
theorem jP6 : ∀ {E : List jQp} {T : Tab}, (jDs T E).length ≤ T.length + E.length
  | [], _ => Nat.le_refl _
  | e :: r, T => by
    have h1 := jP6 (E := r) (T := jSr T e)
    have h2 := jAb (T := T) (e := e)
    show (jDs (jSr T e) r).length ≤ _
    simp only [List.length_cons]; omega
theorem jHv : ∀ {E : List jQp} {T : Tab} {k : Str}, (ky T).Nodup → (∀ e ∈ E, e.Has = false → e.New = []) → (∀ e ∈ E, e.Key ≠ k) → gt (jDs T E) k = gt T k
  | [], _, _, _, _, _ => rfl
  | e :: r, T, k, h, hn, hk => by
    show gt (jDs (jSr T e) r) k = _
    rw [jHv (jMv h) (fun x hx => hn x (List.mem_cons_of_mem _ hx)) (fun x hx => hk x (List.mem_cons_of_mem _ hx)), jTe h (hn e List.mem_cons_self), if_neg (fun x => hk e List.mem_cons_self x.symm)]
theorem jLy : ∀ {E : List jQp} {T : Tab} {e : jQp}, (ky T).Nodup → (∀ e ∈ E, e.Has = false → e.New = []) → E.Pairwise (fun x y => x.Key < y.Key) → e ∈ E → gt (jDs T E) e.Key = ⟨e.New, e.Has⟩
  | [], _, _, _, _, _, h => by cases h
  | x :: r, T, e, h, hn, hs, he => by
    obtain ⟨h1, h2⟩ := List.pairwise_cons.1 hs
    show gt (jDs (jSr T x) r) e.Key = _
    rcases List.mem_cons.1 he with rfl | he
    · rw [jHv (jMv h) (fun y hy => hn y (List.mem_cons_of_mem _ hy)) (fun y hy e => jLt (h1 y hy) e.symm), jTe h (hn _ List.mem_cons_self), if_pos rfl]
    · exact jLy (jMv h) (fun y hy => hn y (List.mem_cons_of_mem _ hy)) h2 he
theorem qQu {N : Nat} {T : Tab} {E : List jQp} (hE : EdOk T E) (hT : (ky T).Nodup) (hN : 1000000 ≤ N) : jZl (jZr N E) N (0, T) = some (.inl (jDs T E)) := by
  have hlen := hE.len
  have key := jTc (f := jZr N E) (n := E.length) (N := N) (fun i => ((i : Int), jDs T (E.take i))) (.inl (jDs T E)) (fun i hi => ?_) ?_ (by omega)
  · exact key
  · have hm : E[i] ∈ E := List.getElem_mem hi
    have hat : gt (jDs T (E.take i)) E[i].Key = ⟨E[i].Old, E[i].Had⟩ := by
      rw [jHv hT (fun e he => hE.n0 e (List.mem_of_mem_take he)) (fun e he => ?_), hE.at_ _ hm]
      obtain ⟨j, hj, rfl⟩ := List.getElem_of_mem he
      rw [List.length_take] at hj
      rw [List.getElem_take]
      exact jLt (List.pairwise_iff_getElem.1 hE.so j i (by omega) hi (by omega))
    have hprev : ((bif (jJw .gtr (i : Int) 0) then (idx E (IntKind.i64.wrap ((i : Int) - 1))) else some (⟨[], [], [], false, false⟩ : jQp)).bind fun v9 => some ((jJw .gtr (i : Int) 0) && (jZj .leq E[i].Key v9.Key))) = some false := by
      rw [jYg]
      by_cases h0 : i = 0
      · subst h0; rfl
      · rw [dT (by omega), cnT, idxP hi h0 (by omega), bS, Bool.true_and, jMx, jSc (by omega : i - 1 < E.length), dT (List.pairwise_iff_getElem.1 hE.so (i - 1) i (by omega) hi (by omega))]; rfl
    have hfrm : ((((((!true) || (!true)) || ((!E[i].Had) && (jZj .neq E[i].Old ([] : Str)))) || ((!E[i].Has) && (jZj .neq E[i].New ([] : Str)))) || ((!E[i].Had) && (!E[i].Has)))) = false := by
      rw [jRn, jRn]
      cases h1 : E[i].Had with
      | true =>
        cases h2 : E[i].Has with
        | true => rfl
        | false => rw [dT (hE.n0 _ hm h2)]; rfl
      | false =>
        rw [dT (hE.o0 _ hm h1)]
        cases h2 : E[i].Has with
        | true => rfl
        | false => rcases hE.on _ hm with h | h
                   · rw [h1] at h; cases h
                   · rw [h2] at h; cases h
    have hnext : jDs T (E.take (i + 1)) = jSr (jDs T (E.take i)) E[i] := by
      rw [List.take_succ_eq_append_getElem hi]; unfold jDs; rw [List.foldl_append]; rfl
    rw [hnext]
    unfold jZr
    dsimp only
    rw [jX8, dT (by omega), cnT, jKm hi, bS, jP8 (by omega), bS, hE.nm _ hm, Bool.not_true, cnF, jPa (by omega), bS, hE.ov _ hm, Bool.not_true, Bool.not_false, cnT, jPa (by omega), bS, hE.nv _ hm]
    rw [Bool.not_true] at hfrm
    rw [Bool.not_true, hfrm, cnF]
    obtain ⟨v9, h9, h9'⟩ : ∃ v9, (bif (jJw .gtr (i : Int) 0) then (idx E (IntKind.i64.wrap ((i : Int) - 1))) else some (⟨[], [], [], false, false⟩ : jQp)) = some v9 ∧ ((jJw .gtr (i : Int) 0) && (jZj .leq E[i].Key v9.Key)) = false := by
      cases hq : (bif (jJw .gtr (i : Int) 0) then (idx E (IntKind.i64.wrap ((i : Int) - 1))) else some (⟨[], [], [], false, false⟩ : jQp)) with
      | none => rw [hq] at hprev; cases hprev
      | some v9 => rw [hq, bS] at hprev; exact ⟨v9, rfl, Option.some.inj hprev⟩
    rw [h9, bS, h9', cnF, jDw]
    show (bif !decide (gt (jDs T (E.take i)) E[i].Key = _) then _ else _) = _
    rw [dT hat, Bool.not_true, cnF, jNe (by omega)]
    unfold jSr
    cases E[i].Has <;> rfl
  · unfold jZr
    dsimp only
    rw [jX8, dF (by omega), cnF, List.take_length]
theorem jMl {N : Nat} {l : Sets} {E : List jQp} (hl : OkS l) (hE : EdOk (jQa l) E) {K : List Str} (hK : K.length ≤ 60) (hk : ∀ k v, gt (jDs (jQa l) E) k = ⟨v, true⟩ → k ∈ K) (hN : 1000000 ≤ N) :
    ∃ r, jVa N l E = some (r, 0) ∧ r.Pairwise (fun x y => x.Key < y.Key) ∧ (∀ k v, (⟨k, v⟩ : GSetting) ∈ r ↔ gt (jDs (jQa l) E) k = ⟨v, true⟩) ∧ r.length ≤ 60 := by
  have h1 := hl.len
  have h2 := hE.len
  have hT := jFs hl.so
  have hlen := jP6 (E := E) (T := jQa l)
  rw [jYe] at hlen
  obtain ⟨r, hr, hs, hm, _⟩ := jS5 (N := N) (jTt (E := E) hT) (by omega)
  have h60 : r.length ≤ 60 := Nat.le_trans (jRd hs fun x hx => hk x.Key x.Value ((hm _ _).1 hx)) hK
  refine ⟨r, ?_, hs, hm, h60⟩
  unfold jVa
  rw [qJw hN, bS, jNb.2 hl, jUh, dT rfl, Bool.not_true, cnF, jYg, dF (by omega), cnF, jUe hl.so (by omega) hN, bS, qQu hE hT hN, bS]
  show ((jXn N (jDs (jQa l) E)).bind fun v20 => _) = _
  rw [hr, bS, jYg, dF (by omega), cnF]
theorem jNy {N : Nat} {l : Sets} (hl : l.length ≤ 1000) (hN : 1000000 ≤ N) : jZ6 N l l = some true := by
  unfold jZ6
  rw [jUh, dT rfl, Bool.not_true, cnF]
  rw [jHq l.length (.inl ()) (fun _ => True) (fun i hi _ => ?_) (fun _ => ?_) trivial N (by omega)]
  · rfl
  · refine .inl ⟨?_, trivial⟩
    unfold jZa
    rw [jX8, dT (by omega), cnT, jKm hi, bS, bS, qQn, dT ⟨rfl, rfl⟩, Bool.not_true, cnF, jNe (by omega)]
  · unfold jZa
    rw [jX8, dF (by omega), cnF]
end Go.KB
