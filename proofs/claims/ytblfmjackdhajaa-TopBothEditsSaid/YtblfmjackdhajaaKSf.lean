/- Sorting by a comparison; a comparison of this logic as the library's contract of slices.SortFunc asks for it. No condition. -/
import Derived.Test.YtblfmjackdhajaaKSos
import Derived.Shelf.SlSortCmp.InsertionK
namespace Go.KB
open Go.Sort Go.Proofs
set_option linter.unusedVariables false
variable {P : Program} {β : Type}
/- what a comparison tells of two values -/
def ltC (c : β → β → Option Int) (x y : β) : Bool := match c x y with | some n => decide (n < 0) | none => false
structure jDx (c : β → β → Option Int) (xs : List β) : Prop where
  dfd : ∀ x ∈ xs, ∀ y ∈ xs, ∃ n, c x y = some n
  irrefl : ∀ x ∈ xs, ltC c x x = false
  trans : ∀ x ∈ xs, ∀ y ∈ xs, ∀ z ∈ xs, ltC c x y = true → ltC c y z = true → ltC c x z = true
  ntrans : ∀ x ∈ xs, ∀ y ∈ xs, ∀ z ∈ xs, ltC c x y = false → ltC c y z = false → ltC c x z = false
  anti : ∀ x ∈ xs, ∀ y ∈ xs, ltC c x y = false → ltC c y x = false → x = y
def qJt (c : β → β → Option Int) (x : β) : List β → List β
  | [] => [x]
  | y :: l => bif ltC c y x then y :: qJt c x l else x :: y :: l
def jHb (c : β → β → Option Int) : List β → List β
  | [] => []
  | x :: l => qJt c x (jHb c l)
open Classical in
noncomputable def jM4 (c : β → β → Option Int) (xs : List β) : Option (List β) := if jDx c xs ∧ xs.length ≤ 1000000 then some (jHb c xs) else none
theorem jSg {c : β → β → Option Int} {xs : List β} (h : jDx c xs) (hl : xs.length ≤ 1000000) : jM4 c xs = some (jHb c xs) := if_pos ⟨h, hl⟩
theorem jNn (c : β → β → Option Int) (x : β) : ∀ l, (qJt c x l).Perm (x :: l) := by
  intro l
  induction l with
  | nil => exact List.Perm.refl _
  | cons y l ih =>
    unfold qJt
    cases ltC c y x with
    | true => exact (List.Perm.cons y ih).trans (List.Perm.swap x y l)
    | false => exact List.Perm.refl _
theorem jKq (c : β → β → Option Int) : ∀ l, (jHb c l).Perm l := by
  intro l
  induction l with
  | nil => exact List.Perm.refl _
  | cons x l ih => exact (jNn c x _).trans (List.Perm.cons x ih)
theorem jB3 {c : β → β → Option Int} {X : List β} (h : jDx c X) : ∀ l, (∀ x ∈ l, x ∈ X) → (jHb c l).Pairwise (fun a b => ltC c b a = false) := by
  have hi : ∀ x, x ∈ X → ∀ l, (∀ y ∈ l, y ∈ X) → l.Pairwise (fun a b => ltC c b a = false) → (qJt c x l).Pairwise (fun a b => ltC c b a = false) := by
    intro x hx l
    induction l with
    | nil => intro _ _; simp [qJt]
    | cons y l ih =>
      intro hl hp
      obtain ⟨h1, h2⟩ := List.pairwise_cons.1 hp
      have hy := hl y List.mem_cons_self
      unfold qJt
      cases hc : ltC c y x with
      | true =>
        refine List.pairwise_cons.2 ⟨fun z hz => ?_, ih (fun z hz => hl z (List.mem_cons_of_mem _ hz)) h2⟩
        rcases List.mem_cons.1 ((jNn c x l).mem_iff.1 hz) with rfl | hz
        · cases hq : ltC c z y with
          | false => rfl
          | true => have := h.trans y hy z hx y hy hc hq; rw [h.irrefl y hy] at this; cases this
        · exact h1 z hz
      | false =>
        refine List.pairwise_cons.2 ⟨fun z hz => ?_, hp⟩
        rcases List.mem_cons.1 hz with rfl | hz
        · exact hc
        · exact h.ntrans z (hl z (List.mem_cons_of_mem _ hz)) y hy x hx (h1 z hz) hc
  intro l
  induction l with
  | nil => intro _; exact List.Pairwise.nil
  | cons x l ih => exact fun hl => hi x (hl x List.mem_cons_self) _ (fun y hy => hl y (List.mem_cons_of_mem _ ((jKq c l).mem_iff.1 hy))) (ih fun y hy => hl y (List.mem_cons_of_mem _ hy))
theorem jS6 {c : β → β → Option Int} {X l : List β} (h : jDx c X) (hp : l.Perm X) (hs : l.Pairwise (fun a b => ltC c b a = false)) : l = jHb c X :=
  List.Perm.eq_of_pairwise (le := fun a b => ltC c b a = false) (fun a b ha hb h1 h2 => h.anti a (hp.mem_iff.1 ha) b ((jKq c X).mem_iff.1 hb) h2 h1) hs (jB3 h X fun _ x => x) (hp.trans (jKq c X).symm)
/- the elements of a row in memory -/
abbrev ElF (r : Rep β) (h : H) (X : List β) := {p : List Value × β // r.rel h p.1 p.2 ∧ p.2 ∈ X}
theorem jA7 {r : Rep β} {h : H} {X : List β} : ∀ {xs : List β} {cs : List Value}, jUg r h cs xs → (∀ x ∈ xs, x ∈ X) → ∃ l : List (ElF r h X), (l.map fun p => p.1.1).flatten = cs ∧ (l.map fun p => p.1.2) = xs := by
  intro xs
  induction xs with
  | nil => intro cs e _; exact ⟨[], by rw [show cs = [] from e]; rfl, rfl⟩
  | cons x xs ih =>
    rintro cs ⟨c, d, rfl, hc, hd⟩ hX
    obtain ⟨l, h1, h2⟩ := ih hd fun y hy => hX y (List.mem_cons_of_mem _ hy)
    exact ⟨⟨(c, x), hc, hX x List.mem_cons_self⟩ :: l, by simp [h1], by simp [h2]⟩
theorem qJh {r : Rep β} {h : H} {X : List β} : ∀ l : List (ElF r h X), jUg r h (l.map fun p => p.1.1).flatten (l.map fun p => p.1.2) := by
  intro l
  induction l with
  | nil => exact rfl
  | cons p l ih => exact ⟨p.1.1, _, by simp, p.2.1, ih⟩
theorem below_grow {w w' : World} (hb : jHd w.heap.size w w') : ∃ q os, w' = grow (w.drewN q) os := by
  obtain ⟨ho, ht, hu, hs, hk, hd⟩ := hb
  refine ⟨w'.drawn - w.drawn, w'.heap.extract w.heap.size w'.heap.size, ?_⟩
  obtain ⟨hp, tp, dr, os, out⟩ := w
  obtain ⟨hp', tp', dr', os', out'⟩ := w'
  simp only at ho ht hu hs hk hd
  subst ho ht hu
  unfold grow World.drewN
  simp only [World.mk.injEq, and_true, true_and]
  refine ⟨?_, by omega⟩
  apply Array.ext_getElem?
  intro i
  rw [Array.getElem?_append]
  split
  · rename_i hi; exact hk i hi
  · rename_i hi
    rw [Array.getElem?_extract]
    simp only [Nat.min_self]
    split
    · congr 1; omega
    · exact Array.getElem?_eq_none (by omega)
/- the comparison in every world that the sort passes through -/
theorem jRf {g : FuncId} {cb : Array Value} {r : Rep β} {h : H} {w w1 : World} {B : Base} {κ : Type} {L : κ → Option Ent} {x0 : Ent} {b : Nat} (hst : St B h (Sum.elim (fun _ : Unit => some x0) L) w) (hcl : x0.claims = [(b, 0)])
    (h1 : ∀ b', b' ≠ b → b' < w.heap.size → w1.heap[b']? = w.heap[b']?) {x y : β} {n : Int}
    (hc : ∀ (κ : Type) (B : Base) (L : κ → Option Ent) (h' : H) (w : World) (vs : List Value), Hle h h' → St B h' L w → [fV r x, fV r y].length = vs.length →
      (∀ (j : Nat) (g : jJm) (v : Value), [fV r x, fV r y][j]? = some g → vs[j]? = some v → g.p h' undef v) → Calls P g (vs.toArray ++ cb) w (fun e w' => ∃ v h'', e = .returned v ∧ Hle h' h'' ∧ St B h'' L w' ∧ (fV (Rep.int .i64) n).p h'' undef v))
    {u v : Value} (hu : r.val h u x) (hv : r.val h v y) : Calls P g (#[u, v] ++ cb) w1 fun e w' => e = .returned (.int .i64 n) ∧ ∃ q os', w' = grow (w1.drewN q) os' := by
  have hne : ∀ {b' o u}, h b' o = some u → b' ≠ b := by
    rintro b' o u hbo rfl
    obtain ⟨hq, _⟩ := hst.own (k := Sum.inl ()) (e := x0) rfl
    have := (hq (b', 0) (by rw [hcl]; exact List.mem_singleton_self _)).2.2 o (Nat.zero_le _)
    rw [hbo] at this; cases this
  have hmk : h.n ≤ w1.heap.size := by
    obtain ⟨hq, _⟩ := hst.own (k := Sum.inl ()) (e := x0) rfl
    have h2 := (hq (b, 0) (by rw [hcl]; exact List.mem_singleton_self _)).1
    have h3 := hst.mark
    have h4 := hst.mn
    refine Nat.le_of_not_lt fun hlt => ?_
    have h5 := h1 (h.n - 1) (by omega) (by omega)
    have h7 : h.n - 1 < w.heap.size := by omega
    rw [Array.getElem?_eq_getElem h7] at h5
    have := (Array.getElem?_eq_some_iff.1 h5).1
    omega
  have hS : St ⟨w1.heap.size, w1, []⟩ h (fun _ : Empty => none) w1 := ⟨Nat.le_refl _, jHd.refl _ _, fun {b' o u} hbo => by
    rw [← hst.ext hbo]
    exact World.cell?_of_block (h1 b' (hne hbo) (hst.lt hbo)), fun {k} => k.elim, fun {k} => k.elim, hmk, fun {b' o u} hn hi hbo => by
    rw [h1 b' (hne hbo) (hst.lt hbo)]; exact hst.nf hn hi hbo⟩
  refine (hc Empty _ _ h w1 [u, v] (Hle.refl h) hS rfl ?_).mono ?_
  · intro j g z hg hz
    match j, hg, hz with
    | 0, hg, hz => cases hg; cases hz; exact hu
    | 1, hg, hz => cases hg; cases hz; exact hv
    | j + 2, hg, hz => simp at hg
  · rintro e w' ⟨z, h', rfl, _, hst', cs, hz, rfl⟩
    have hz : cs = [Value.int .i64 n] := hz
    subst hz
    exact ⟨rfl, below_grow hst'.base⟩
theorem jMz {c : β → β → Option Int} {X : List β} {r : Rep β} {h : H} (x y : ElF r h X) : ltOf (fun (x y : ElF r h X) => (c x.1.2 y.1.2).getD 0) x y = ltC c x.1.2 y.1.2 := by
  show decide ((c x.1.2 y.1.2).getD 0 < 0) = ltC c x.1.2 y.1.2
  unfold ltC
  cases c x.1.2 y.1.2 with
  | none => rfl
  | some n => rfl
theorem jA3 {c : β → β → Option Int} {X : List β} {r : Rep β} {h : H} (hO : jDx c X) : SWO (ltOf fun (x y : ElF r h X) => (c x.1.2 y.1.2).getD 0) :=
  ⟨fun x => by rw [jMz]; exact hO.irrefl _ x.2.2, fun x y z h1 h2 => by rw [jMz] at *; exact hO.trans _ x.2.2 _ y.2.2 _ z.2.2 h1 h2, fun x y z h1 h2 => by rw [jMz] at *; exact hO.ntrans _ x.2.2 _ y.2.2 _ z.2.2 h1 h2⟩
/- what the library says of the row behind the call -/
theorem jFl {c : β → β → Option Int} {X : List β} {r : Rep β} {h : H} [Inhabited (ElF r h X)] (hO : jDx c X) {l : List (ElF r h X)} {d' : Array (ElF r h X)} (hl : (l.map fun p => p.1.2) = X)
    (hp : PermIn 0 l.toArray.size l.toArray d') (hs : SortedIn (ltOf fun (x y : ElF r h X) => (c x.1.2 y.1.2).getD 0) 0 l.toArray.size d') : d'.size = l.length ∧ (d'.toList.map fun p => p.1.2) = jHb c X := by
  obtain ⟨h1, _, h3⟩ := hp
  have hsz : d'.size = l.length := by simpa using h1
  refine ⟨hsz, jS6 hO ?_ ?_⟩
  · have e : List.take l.length d'.toList = d'.toList := List.take_of_length_le (by simp [hsz])
    have h4 : (List.take l.length d'.toList).Perm l := by simpa [hsz] using h3
    rw [e] at h4
    exact (h4.map fun p => p.1.2).trans (by rw [hl])
  · rw [List.pairwise_map, List.pairwise_iff_getElem]
    intro i j hi hj hij
    have := hs i j (Nat.zero_le _) hij (by simpa [hsz] using hj)
    rw [jMz] at this
    have ei : d'[i]! = d'.toList[i] := by simp at hi; simp [hi]
    have ej : d'[j]! = d'.toList[j] := by simp at hj; simp [hj]
    rw [ei, ej] at this
    exact this
end Go.KB
