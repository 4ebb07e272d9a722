/- Go's slices.SortFunc by the library's contract, as a function that writes a row of the caller's. No condition. -/
import Derived.Test.YtblfmjackdhajaaKSf
import Derived.Shelf.SlSortCmp.NoneTotal
namespace Go.KB
open Go.Sort Go.Proofs Go.Shelf
set_option linter.unusedVariables false
variable {P : Program} {β : Type}
theorem holdsA {α : Type} [Inhabited α] {enc : α → Value} {w : World} {b : Nat} {p q : List Value} {xs : List α} {E : TypeId} (hb : w.heap[b]? = some (.cells (p ++ xs.map enc ++ q).toArray E (0, 0))) : Holds enc w b p.length xs.toArray := by
  intro j hj
  have hj' : j < xs.length := by simpa using hj
  constructor
  · rw [jY6 _ _ _ _ _ _ hb]
    simp only [List.getElem?_toArray]
    rw [List.append_assoc, List.getElem?_append_right (by omega), List.getElem?_append_left (by simp; omega), Nat.add_sub_cancel_left, List.getElem?_map, List.getElem?_eq_getElem hj']
    simp [hj']
  · unfold World.frozen?
    simp [hb]
theorem jD2 {g : FuncId} {fn : Func} (hf : P.funcs[g]? = some fn) (hbd : jYn fn = true) (args : Array Value) (w : World) : (callFunc g args).run P w = .ok (.enter g args) w := by
  simp only [jYn, Bool.and_eq_true, Bool.not_eq_true'] at hbd
  have hbody : fn.body ≠ none := by
    intro hx; rw [hx] at hbd; cases hbd.1
  have hname : fn.name ≠ "runtime.NumGoroutine" := by simpa using hbd.2
  simp [callFunc, hf, hname, hbody]
theorem okM_sortF1 {f : FuncId} {ρ : Ren} (L : SlLaysF.n6 P ρ) (hf : ρ.f 6 = f) {E : TypeId} {r : Rep β} (hr : r.agg = false) (K : Option jC4) {c : β → β → Option Int} {xs res : List β} (H : jM4 c xs = some res) :
    jPj P f [jJm.triv, fF2 P r r (Rep.int .i64) c] 0 (jSt K E r xs) (jSt K E r res) fT0 := by
  subst hf
  unfold jM4 at H
  by_cases hc : jDx c xs ∧ xs.length ≤ 1000000
  case neg => rw [if_neg hc] at H; cases H
  rw [if_pos hc] at H; cases H
  obtain ⟨hO, hlen⟩ := hc
  intro κ B Lw h w vs x v hst hl hvi hq hargs
  obtain ⟨u, rfl⟩ : ∃ u, vs = [v, u] := by
    match vs, hl, hvi with
    | [a, b], _, hvi => simp at hvi; exact ⟨b, by rw [hvi]⟩
  obtain ⟨g, fn, cb, rfl, hfn, hbd, hcmp⟩ := hargs 1 _ u rfl rfl
  have hnone : ∀ (p : Option Addr) (cap : Nat), Calls P (ρ.f 6) #[.slice p 0 cap, .func (.func g) #[] cb] w fun e w' => e = .returned (.tuple #[]) ∧ w' = w := fun p cap => AnyF.slices_SortFunc_none ({ L with } : SlLaysF0.n6 P ρ) p cap _ w
  cases xs with
  | nil =>
    have hv : ∃ p cap, v = .slice p 0 cap := by
      cases K with
      | none => obtain ⟨⟨base, rfl⟩, _⟩ := hq; exact ⟨base, 0, rfl⟩
      | some K => obtain ⟨rfl, _⟩ := hq; exact ⟨_, _, rfl⟩
    obtain ⟨p, cap, rfl⟩ := hv
    refine (hnone p cap).mono ?_
    rintro e w' ⟨rfl, rfl⟩
    exact ⟨_, h, x, rfl, Hle.refl h, hst, rfl, hq⟩
  | cons y0 ys =>
    cases K with
    | none => obtain ⟨_, he, _⟩ := hq; cases he
    | some K =>
      obtain ⟨rfl, hcap, rfl⟩ := hq
      obtain ⟨hcl, cs, hb, hrl⟩ := hst.own (k := Sum.inl ()) (e := jHe K E r (y0 :: ys)) rfl
      obtain ⟨l, hl1, hl2⟩ := jA7 hrl fun _ z => z
      generalize hX : y0 :: ys = X at *
      have hne : l ≠ [] := by rintro rfl; rw [← hX] at hl2; cases hl2
      haveI : Inhabited (ElF r h X) := ⟨l.head hne⟩
      have hone : ∀ p : ElF r h X, ∃ z, p.1.1 = [z] := fun p => by
        have := r.len p.2.1
        rw [r.one hr] at this
        match hp : p.1.1, this with
        | [z], _ => exact ⟨z, rfl⟩
      have hfl : ∀ l : List (ElF r h X), (l.map fun p => p.1.1).flatten = l.map fun p => pack false p.1.1 := by
        intro l
        induction l with
        | nil => rfl
        | cons p l ih =>
          obtain ⟨z, hz⟩ := hone p
          simp only [List.map_cons, List.flatten_cons, ih, hz]
          rfl
      have hlx : l.length = X.length := by have := congrArg List.length hl2; simpa using this
      have hb' : w.heap[K.b]? = some (.cells (K.pre ++ (l.map fun p => pack false p.1.1) ++ K.post).toArray E (0, 0)) := by rw [← hfl, hl1]; exact hb
      have hlt := (Array.getElem?_eq_some_iff.1 hb').1
      have key := Any.slices_SortFunc L (fun p : ElF r h X => pack false p.1.1) (fun p => by
        obtain ⟨z, hz⟩ := hone p
        show (pack false p.1.1).oneCell' = true
        rw [hz]
        exact r.flat p.2.1 z (by rw [hz]; exact List.mem_singleton_self _)) (fun x y => (c x.1.2 y.1.2).getD 0) (jA3 hO) g cb K.b K.pre.length K.cap l.toArray w (jD2 hfn hbd) (by
          intro m os dk hdk x y
          obtain ⟨n, hn⟩ := hO.dfd _ x.2.2 _ y.2.2
          have hxy := jRf (w1 := sortWorld (fun p : ElF r h X => pack false p.1.1) w K.b K.pre.length m dk os) hst rfl (fun b' hne hlt => jU0 hne hlt m os) (x := x.1.2) (y := y.1.2) (n := n) (g := g) (cb := cb) (r := r)
            (fun κ B L h' w vs h1 h2 h3 h4 => hcmp ⟨(x.1.2, y.1.2, n), hn⟩ κ B L h' w vs h1 h2 h3 h4) (u := pack false x.1.1) (v := pack false y.1.1) ⟨_, x.2.1, by rw [hr]⟩ ⟨_, y.2.1, by rw [hr]⟩
          refine hxy.mono ?_
          rintro e w' ⟨rfl, hw⟩
          exact ⟨by show Ending.returned (.int .i64 n) = Ending.returned (.int .i64 ((c x.1.2 y.1.2).getD 0)); rw [hn]; rfl, hw⟩) (holdsA hb') hlt (by simp; omega)
      have e0 : (l.toArray.size : Nat) = X.length := by simpa using hlx
      rw [e0] at key
      refine key.mono ?_
      rintro e w' ⟨rfl, d', n, os, hp, hs, rfl⟩
      rw [← e0] at hp hs
      obtain ⟨hsz, hmap⟩ := jFl hO hl2 hp hs
      have hlr : (jHb c X).length = X.length := (jKq c X).length_eq
      refine ⟨_, h, jHe K E r (jHb c X), rfl, Hle.refl h, ?_, rfl, ?_⟩
      · exact hst.putA rfl rfl hb' (by simp [hsz]) n os fun m hm => ⟨(d'.toList.map fun p => p.1.1).flatten, by rw [hm, hfl], by rw [← hmap]; exact qJh d'.toList⟩
      · exact ⟨by rw [hlr], by rw [hlr]; exact hcap, rfl⟩
/- rows of structs -/
theorem jAt {α : Type} [Inhabited α] {enc : α → List Value} {k : Nat} (hk : ∀ x, (enc x).length = k) : ∀ l : List α, (List.range (l.length * k)).map (fun t => (enc l[t / k]!)[t % k]!) = (l.map enc).flatten := by
  intro l
  induction l with
  | nil => simp
  | cons x l ih =>
    have e : (x :: l).length * k = k + l.length * k := by rw [List.length_cons, Nat.succ_mul, Nat.add_comm]
    rw [e, List.range_add, List.map_append, List.map_cons, List.flatten_cons, List.map_map, ← ih]
    congr 1
    · refine List.ext_getElem (by rw [List.length_map, List.length_range, hk]) fun i h1 h2 => ?_
      have hi : i < k := by rw [List.length_map, List.length_range] at h1; exact h1
      rw [List.getElem_map, List.getElem_range, Nat.div_eq_of_lt hi, Nat.mod_eq_of_lt hi]
      show (enc x)[i]! = _
      simp [h2]
    · refine List.map_congr_left fun t ht => ?_
      by_cases h0 : k = 0
      · subst h0; simp at ht
      · have h1 : (k + t) / k = t / k + 1 := by rw [Nat.add_comm, Nat.add_div_right _ (Nat.pos_of_ne_zero h0)]
        show (enc (x :: l)[(k + t) / k]!)[(k + t) % k]! = (enc l[t / k]!)[t % k]!
        rw [h1, Nat.add_mod_left]
        congr 2
theorem jLl {α : Type} [Inhabited α] {enc : α → List Value} {k : Nat} (hk : ∀ x, (enc x).length = k) (d : Array α) : (flatK enc k d).toList = (d.toList.map enc).flatten := by
  rw [← jAt hk]
  unfold flatK
  rw [Array.toList_map, Array.toList_range]
  simp
  intro a _
  have : d[a / k]! = d[a / k]?.getD default := by rw [getElem!_def]; cases d[a / k]? <;> rfl
  rw [this]
theorem jSu {f : FuncId} {ρ : Ren} (L : SlLaysF0.n6 P ρ) (hf : ρ.f 6 = f) {E : TypeId} {r : Rep β} (hr : r.agg = true) (aE : ∀ w, (isAgg (ρ.t 24)).run P w = .ok true w) (zE : ∀ w, (Go.sizeOf (ρ.t 24)).run P w = .ok r.sz w) (K : Option jC4) {c : β → β → Option Int} {xs res : List β} (H : jM4 c xs = some res) :
    jPj P f [jJm.triv, fF2 P r r (Rep.int .i64) c] 0 (jSt K E r xs) (jSt K E r res) fT0 := by
  subst hf
  unfold jM4 at H
  by_cases hc : jDx c xs ∧ xs.length ≤ 1000000
  case neg => rw [if_neg hc] at H; cases H
  rw [if_pos hc] at H; cases H
  obtain ⟨hO, hlen⟩ := hc
  intro κ B Lw h w vs x v hst hl hvi hq hargs
  obtain ⟨u, rfl⟩ : ∃ u, vs = [v, u] := by
    match vs, hl, hvi with
    | [a, b], _, hvi => simp at hvi; exact ⟨b, by rw [hvi]⟩
  obtain ⟨g, fn, cb, rfl, hfn, hbd, hcmp⟩ := hargs 1 _ u rfl rfl
  have hnone : ∀ (p : Option Addr) (cap : Nat), Calls P (ρ.f 6) #[.slice p 0 cap, .func (.func g) #[] cb] w fun e w' => e = .returned (.tuple #[]) ∧ w' = w := fun p cap => AnyF.slices_SortFunc_none L p cap _ w
  cases xs with
  | nil =>
    have hv : ∃ p cap, v = .slice p 0 cap := by
      cases K with
      | none => obtain ⟨⟨base, rfl⟩, _⟩ := hq; exact ⟨base, 0, rfl⟩
      | some K => obtain ⟨rfl, _⟩ := hq; exact ⟨_, _, rfl⟩
    obtain ⟨p, cap, rfl⟩ := hv
    refine (hnone p cap).mono ?_
    rintro e w' ⟨rfl, rfl⟩
    exact ⟨_, h, x, rfl, Hle.refl h, hst, rfl, hq⟩
  | cons y0 ys =>
    cases K with
    | none => obtain ⟨_, he, _⟩ := hq; cases he
    | some K =>
      obtain ⟨rfl, hcap, rfl⟩ := hq
      obtain ⟨hcl, cs, hb, hrl⟩ := hst.own (k := Sum.inl ()) (e := jHe K E r (y0 :: ys)) rfl
      obtain ⟨l, hl1, hl2⟩ := jA7 hrl fun _ z => z
      generalize hX : y0 :: ys = X at *
      have hne : l ≠ [] := by rintro rfl; rw [← hX] at hl2; cases hl2
      haveI : Inhabited (ElF r h X) := ⟨l.head hne⟩
      have hk : ∀ p : ElF r h X, p.1.1.length = r.sz := fun p => r.len p.2.1
      have hlx : l.length = X.length := by have := congrArg List.length hl2; simpa using this
      have hfl : (flatK (fun p : ElF r h X => p.1.1) r.sz l.toArray).toList = cs := by rw [jLl hk, ← hl1]
      have hb' : w.heap[K.b]? = some (.cells (K.pre ++ (flatK (fun p : ElF r h X => p.1.1) r.sz l.toArray).toList.map id ++ K.post).toArray E (0, 0)) := by rw [List.map_id, hfl]; exact hb
      have hlt := (Array.getElem?_eq_some_iff.1 hb').1
      have hH : HoldsK (fun p : ElF r h X => p.1.1) r.sz w K.b K.pre.length l.toArray := by
        have := holdsA (enc := id) hb'
        rw [Array.toArray_toList] at this
        exact this
      have key := AnyQ.slices_SortFunc L r.sz aE zE (fun p : ElF r h X => p.1.1) hk (fun p => r.flat p.2.1) (fun x y => (c x.1.2 y.1.2).getD 0) (jA3 hO) g cb K.b K.pre.length K.cap l.toArray w (jD2 hfn hbd) (by
          intro m os dk hdk x y
          obtain ⟨n, hn⟩ := hO.dfd _ x.2.2 _ y.2.2
          have hxy := jRf (w1 := sortWorldK (fun p : ElF r h X => p.1.1) r.sz w K.b K.pre.length m dk os) hst rfl (fun b' hne hlt => jU0 (enc := id) hne hlt m os) (x := x.1.2) (y := y.1.2) (n := n) (g := g) (cb := cb) (r := r)
            (fun κ B L h' w vs h1 h2 h3 h4 => hcmp ⟨(x.1.2, y.1.2, n), hn⟩ κ B L h' w vs h1 h2 h3 h4) (u := pack true x.1.1) (v := pack true y.1.1) ⟨_, x.2.1, by rw [hr]⟩ ⟨_, y.2.1, by rw [hr]⟩
          refine hxy.mono ?_
          rintro e w' ⟨rfl, hw⟩
          exact ⟨by show Ending.returned (.int .i64 n) = Ending.returned (.int .i64 ((c x.1.2 y.1.2).getD 0)); rw [hn]; rfl, hw⟩) hH hlt (by simp; omega)
      have e0 : (l.toArray.size : Nat) = X.length := by simpa using hlx
      rw [e0] at key
      refine key.mono ?_
      rintro e w' ⟨rfl, d', n, os, hp, hs, rfl⟩
      rw [← e0] at hp hs
      obtain ⟨hsz, hmap⟩ := jFl hO hl2 hp hs
      have hlr : (jHb c X).length = X.length := (jKq c X).length_eq
      refine ⟨_, h, jHe K E r (jHb c X), rfl, Hle.refl h, ?_, rfl, ?_⟩
      · refine hst.putA (enc := id) (c := (flatK (fun p : ElF r h X => p.1.1) r.sz l.toArray).toList) (d := flatK (fun p : ElF r h X => p.1.1) r.sz d') rfl rfl (by rw [List.map_id] at hb'; exact hb') (by rw [Array.length_toList, size_flatK, size_flatK, hsz]; simp) n os fun m hm => ⟨(d'.toList.map fun p => p.1.1).flatten, by rw [hm, List.map_id, jLl hk], by rw [← hmap]; exact qJh d'.toList⟩
      · exact ⟨by rw [hlr], by rw [hlr]; exact hcap, rfl⟩
end Go.KB
