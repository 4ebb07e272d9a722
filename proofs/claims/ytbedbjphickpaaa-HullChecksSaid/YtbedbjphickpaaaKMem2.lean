/- Rows of elements: slices that are built, grown, made and written; structs that are built. No condition. -/
import Derived.Test.YtbedbjphickpaaaKMem
namespace Go.KB
variable {P : Program} {o : Oper} {N : List (Nat × Fact)} {f : Fact} {α β : Type}

def RelL (r : Rep α) (h : H) : List Value → List α → Prop
  | cs, [] => cs = []
  | cs, x :: xs => ∃ c d, cs = c ++ d ∧ r.rel h c x ∧ RelL r h d xs
theorem RelL.len {r : Rep α} {h : H} : ∀ {xs : List α} {cs : List Value}, RelL r h cs xs → cs.length = xs.length * r.sz := by
  intro xs
  induction xs with
  | nil => intro cs e; rw [show cs = [] from e]; simp
  | cons x xs ih => rintro cs ⟨c, d, rfl, hc, hd⟩; rw [List.length_append, r.len hc, ih hd, List.length_cons, Nat.succ_mul, Nat.add_comm]
theorem RelL.flat {r : Rep α} {h : H} : ∀ {xs : List α} {cs : List Value}, RelL r h cs xs → ∀ c ∈ cs, c.oneCell' = true := by
  intro xs
  induction xs with
  | nil => intro cs e c hc; rw [show cs = [] from e] at hc; cases hc
  | cons x xs ih =>
    rintro cs ⟨c, d, rfl, hc, hd⟩ v hv
    rcases List.mem_append.1 hv with hv | hv
    · exact r.flat hc v hv
    · exact ih hd v hv
theorem RelL.mono {r : Rep α} {h h' : H} (hl : Hle h h') : ∀ {xs : List α} {cs : List Value}, RelL r h cs xs → RelL r h' cs xs := by
  intro xs
  induction xs with
  | nil => intro cs e; exact e
  | cons x xs ih => rintro cs ⟨c, d, e, hc, hd⟩; exact ⟨c, d, e, r.mono hl hc, ih hd⟩
theorem RelL.append {r : Rep α} {h : H} : ∀ {xs : List α} {cs : List Value} {ys : List α} {ds : List Value}, RelL r h cs xs → RelL r h ds ys → RelL r h (cs ++ ds) (xs ++ ys) := by
  intro xs
  induction xs with
  | nil => intro cs ys ds e k; rw [show cs = [] from e]; exact k
  | cons x xs ih => rintro cs ys ds ⟨c, d, rfl, hc, hd⟩ k; exact ⟨c, d ++ ds, by simp, hc, ih hd k⟩
theorem RelL.single {r : Rep α} {h : H} {c : List Value} {x : α} (k : r.rel h c x) : RelL r h c [x] := ⟨c, [], by simp, k, rfl⟩
theorem RelL.get {r : Rep α} {h : H} : ∀ {xs : List α} {cs : List Value}, RelL r h cs xs → ∀ {i : Nat} {x : α}, xs[i]? = some x →
    ∃ p c q, cs = p ++ c ++ q ∧ p.length = i * r.sz ∧ r.rel h c x ∧ ∀ h' c' y, Hle h h' → r.rel h' c' y → RelL r h' (p ++ c' ++ q) (xs.set i y) := by
  intro xs
  induction xs with
  | nil => intro cs _ i x h; simp at h
  | cons x xs ih =>
    rintro cs ⟨c, d, rfl, hc, hd⟩ i y hy
    cases i with
    | zero =>
      simp at hy; subst hy
      exact ⟨[], c, d, by simp, by simp, hc, fun h' c' z hl hz => ⟨c', d, by simp, hz, hd.mono hl⟩⟩
    | succ i =>
      obtain ⟨p, c1, q, rfl, hp, hc1, k⟩ := ih hd (by simpa using hy)
      refine ⟨c ++ p, c1, q, by simp, by rw [List.length_append, r.len hc, hp, Nat.succ_mul, Nat.add_comm], hc1, fun h' c' z hl hz => ⟨c, p ++ c' ++ q, by simp, r.mono hl hc, k h' c' z hl hz⟩⟩
theorem RelL.take {r : Rep α} {h : H} : ∀ {xs : List α} {cs : List Value} (n : Nat), RelL r h cs xs → n ≤ xs.length → ∃ c d, cs = c ++ d ∧ RelL r h c (xs.take n) := by
  intro xs
  induction xs with
  | nil => intro cs n e hn; exact ⟨[], cs, by simp, by simp [RelL]⟩
  | cons x xs ih =>
    rintro cs n ⟨c, d, rfl, hc, hd⟩ hn
    cases n with
    | zero => exact ⟨[], c ++ d, by simp, by simp [RelL]⟩
    | succ n =>
      obtain ⟨c1, d1, rfl, k⟩ := ih n hd (by simpa using hn)
      exact ⟨c ++ c1, d1, by simp, c, c1, rfl, hc, k⟩
theorem RelL.zeros (r : Rep α) (h : H) (n : Nat) : RelL r h (List.replicate n r.zc).flatten (List.replicate n r.zero) := by
  induction n with
  | zero => rfl
  | succ n ih => exact ⟨r.zc, (List.replicate n r.zc).flatten, by simp [List.replicate_succ], r.zrel h, ih⟩
theorem RelL.refs {r : Rep α} {h : H} {b off : Nat} {xs : List α} {cs : List Value} (k : RelL r h cs xs) (hc : ∀ j v, cs[j]? = some v → h b (off + j) = some v) :
    ∀ i x, xs[i]? = some x → RefRel r h b (off + i * r.sz) x := by
  intro i x hx
  obtain ⟨p, c, q, rfl, hp, hr, _⟩ := k.get hx
  refine ⟨c, hr, fun j v hj => ?_⟩
  have := hc (i * r.sz + j) v (by
    rw [List.append_assoc, List.getElem?_append_right (by omega), ← hp, Nat.add_sub_cancel_left, List.getElem?_append_left (List.getElem?_eq_some_iff.1 hj).1]; exact hj)
  rwa [← Nat.add_assoc] at this
theorem SlRel.cells {r : Rep α} {h : H} {b : Nat} : ∀ {xs : List α} {off : Nat}, (∀ i x, xs[i]? = some x → RefRel r h b (off + i * r.sz) x) → ∃ cs, RelL r h cs xs ∧ ∀ j v, cs[j]? = some v → h b (off + j) = some v := by
  intro xs
  induction xs with
  | nil => intro off _; exact ⟨[], rfl, fun j v h => by simp at h⟩
  | cons x xs ih =>
    intro off k
    obtain ⟨c, hc, hcc⟩ := k 0 x rfl
    obtain ⟨d, hd, hdc⟩ := ih (off := off + r.sz) (fun i y hy => by
      have := k (i + 1) y (by simpa using hy)
      rwa [Nat.succ_mul, Nat.add_comm (i * r.sz), ← Nat.add_assoc] at this)
    refine ⟨c ++ d, ⟨c, d, rfl, hc, hd⟩, fun j v hj => ?_⟩
    have hcl := r.len hc
    by_cases hjc : j < c.length
    · rw [List.getElem?_append_left hjc] at hj
      have := hcc j v hj; simpa using this
    · rw [List.getElem?_append_right (by omega)] at hj
      have := hdc _ v hj
      rw [hcl] at this hjc
      rwa [show off + r.sz + (j - r.sz) = off + j from by omega] at this

/- an array, or a row of known length -/
def Rep.arr (r : Rep α) (n : Nat) : Rep (List α) where
  sz := n * r.sz
  agg := true
  rel := fun h cs xs => xs.length = n ∧ RelL r h cs xs
  zero := List.replicate n r.zero
  zc := (List.replicate n r.zc).flatten
  one := fun e => by cases e
  len := fun ⟨e, k⟩ => by rw [k.len, e]
  flat := fun ⟨_, k⟩ => k.flat
  mono := fun hl ⟨e, k⟩ => ⟨e, k.mono hl⟩
  zrel := fun h => ⟨by simp, RelL.zeros r h n⟩
theorem Lens.arr (r : Rep α) (n i : Nat) (hi : i < n) : Lens (r.arr n) r (i * r.sz) (fun xs => xs.getD i r.zero) (fun xs y => xs.set i y) := by
  rintro h cs xs ⟨e, k⟩
  have hx : xs[i]? = some (xs.getD i r.zero) := by
    rw [List.getD_eq_getElem?_getD, List.getElem?_eq_getElem (by omega)]; rfl
  obtain ⟨p, c, q, e', hp, hc, k'⟩ := k.get hx
  exact ⟨p, c, q, e', hp, hc, fun h' c' y hl hy => ⟨by simp [e], k' h' c' y hl hy⟩⟩

/- filling a row of zeros with parts -/
theorem fold_set (off : Nat) : ∀ (c p c0 q : List Value) (k : Nat), c0.length = c.length → p.length = off + k →
    (c.zipIdx k).foldl (fun (cs : Array Value) (x : Value × Nat) => cs.setIfInBounds (off + x.2) x.1) (p ++ c0 ++ q).toArray = (p ++ c ++ q).toArray := by
  intro c
  induction c with
  | nil => intro p c0 q k h1 _; have : c0 = [] := List.eq_nil_of_length_eq_zero h1; subst this; rfl
  | cons x c ih =>
    intro p c0 q k h1 h2
    match c0, h1 with
    | y :: c0, h1 =>
      simp only [List.zipIdx_cons, List.foldl_cons]
      have : (p ++ (y :: c0) ++ q).toArray.setIfInBounds (off + k) x = ((p ++ [x]) ++ c0 ++ q).toArray := by
        simp only [List.setIfInBounds_toArray]
        congr 1
        rw [List.append_assoc, ← h2, List.set_append_right _ _ (Nat.le_refl _)]
        simp
      rw [this, ih (p ++ [x]) c0 q (k + 1) (by simpa using h1) (by simp; omega)]
      simp
theorem fill_step {r : Rep α} {h : H} {v : Value} {x : α} {place : Nat → Option (Nat × Nat)} {i off : Nat} {p c0 q : List Value} {rest : List (Nat × Value)} {cs : List Value} (hr : r.rel h cs x) (hv : v = pack r.agg cs) (hp : place i = some (off, r.sz)) (hl : p.length = off) (hc : c0.length = r.sz) :
    Instr.fill place (p ++ c0 ++ q).toArray ((i, v) :: rest) = Instr.fill place (p ++ cs ++ q).toArray rest := by
  have hcells := cells_pack hr
  have hlen := r.len hr
  rw [← hv] at hcells
  simp only [Instr.fill, hp, hcells]
  rw [if_neg (by simp; omega)]
  congr 1
  have := fold_set off cs p c0 q 0 (by omega) (by omega)
  rw [← this, ← Array.foldl_toList]
  simp

def FillOk (P : Program) (N : List (Nat × Fact)) (place : Nat → Option (Nat × Nat)) {α : Type} (r : Rep α) : List (Nat × Operand) → α → α → Prop
  | [], x, y => x = y
  | (i, o) :: rest, x, y => ∃ (β : Type) (s : Rep β) (off : Nat) (get : α → β) (set : α → β → α) (z : β), Lens r s off get set ∧ place i = some (off, s.sz) ∧ OpdOk N o (fV s z) ∧ FillOk P N place r rest (set x z) y
theorem fillN {place : Nat → Option (Nat × Nat)} {r : Rep α} {x : α} : FillOk P N place r [] x x := rfl
theorem fillC {place : Nat → Option (Nat × Nat)} {r : Rep α} {s : Rep β} {off i : Nat} {x' : Operand} {get : α → β} {set : α → β → α} {z : β} {rest : List (Nat × Operand)} {x y : α} (l : Lens r s off get set) (hp : place i = some (off, s.sz)) (ho : OpdOk N x' (fV s z))
    (k : FillOk P N place r rest (set x z) y) : FillOk P N place r ((i, x') :: rest) x y := ⟨β, s, off, get, set, z, l, hp, ho, k⟩
theorem FillOk.run {place : Nat → Option (Nat × Nat)} {r : Rep α} {h : H} {a : Act} (n : NAll N h a) : ∀ {parts : List (Nat × Operand)} {x y : α} {cs : List Value}, FillOk P N place r parts x y → r.rel h cs x →
    ∃ cs', Instr.fill place cs.toArray (parts.map fun q => (q.1, a.eval q.2)) = some cs'.toArray ∧ r.rel h cs' y := by
  intro parts
  induction parts with
  | nil => intro x y cs k hr; rw [show x = y from k] at hr; exact ⟨cs, rfl, hr⟩
  | cons q rest ih =>
    obtain ⟨i, op⟩ := q
    rintro x y cs ⟨β, s, off, get, set, z, l, hp, ho, k⟩ hr
    obtain ⟨p, c, q, rfl, hpl, hc, hset⟩ := l h cs x hr
    obtain ⟨c', hc', hv⟩ := ho h a n
    simp only [List.map_cons]
    rw [fill_step hc' hv hp hpl (s.len hc)]
    exact ih k (hset h c' z (Hle.refl h) hc')

/- a struct is built -/
def PlacesOk (P : Program) (T : TypeId) (place : Nat → Option (Nat × Nat)) : Prop :=
  ∀ (z : Array Value) (parts : Array (Nat × Value)) (w : World) (cs : Array Value) (v : Value), (zeroValue T).run P w = .ok v w → v.cells = z → Instr.fill place z parts.toList = some cs → (Instr.build T parts).run P w = .ok (.agg cs) w
theorem PlacesOk.mk {T : TypeId} {fs : Array Field} {pl : List (Nat × Nat)} (h1 : P.underlying T = some (.struct fs)) (h2 : ∀ w, (fs.mapM fun f => do pure (f.offset, ← sizeOf f.type) : Sem (Array (Nat × Nat))).run P w = .ok pl.toArray w) : PlacesOk P T (fun i => pl[i]?) := by
  intro z parts w cs v hv hz hf
  have : (fun (x : Nat) => pl.toArray[x]?) = fun i => pl[i]? := by funext i; simp
  unfold Instr.build
  rw [Sem.run_bind, hv]
  simp only [Result.andThen_ok, Sem.run_bind, run_underlying h1, h2, hz, this, hf, Sem.run_pure]
def placeList (P : Program) : List Field → Option (List (Nat × Nat))
  | [] => some []
  | f :: r => match P.info? f.type, placeList P r with
    | some i, some l => some ((f.offset, i.size) :: l)
    | _, _ => none
theorem placeList_run : ∀ (l : List Field) (pl : List (Nat × Nat)) (w : World), placeList P l = some pl → (l.mapM fun f => do pure (f.offset, ← sizeOf f.type) : Sem (List (Nat × Nat))).run P w = .ok pl w := by
  intro l
  induction l with
  | nil => intro pl w h; cases h; simp
  | cons f r ih =>
    intro pl w h
    simp only [placeList] at h
    split at h
    · rename_i i l' hi hl
      cases h
      have hs : (sizeOf f.type).run P w = .ok i.size w := by simp [sizeOf, typeInfo, hi]
      rw [List.mapM_cons]
      simp only [Sem.run_bind, hs, Result.andThen_ok, Sem.run_pure, ih l' w hl]
    · cases h
def placesInfo (P : Program) (T : TypeId) : Option (List (Nat × Nat)) :=
  match P.underlying T with
  | some (.struct fs) => placeList P fs.toList
  | _ => none
theorem PlacesOk.of {T : TypeId} {pl : List (Nat × Nat)} (h : placesInfo P T = some pl) : PlacesOk P T (fun i => pl[i]?) := by
  unfold placesInfo at h
  split at h
  · rename_i fs hT
    refine PlacesOk.mk hT fun w => ?_
    have := placeList_run (P := P) _ _ w h
    have e : ∀ m : Sem (List (Nat × Nat)), (List.toArray <$> m).run P w = (m.run P w).andThen fun a w' => .ok a.toArray w' := fun m => by simp
    rw [Array.mapM_eq_mapM_toList, e, this]; rfl
  · cases h
theorem PlacesOk.mkArr {T E : TypeId} {n sz : Nat} (h1 : P.underlying T = some (.array n E)) (h2 : ∀ w, (sizeOf E).run P w = .ok sz w) : PlacesOk P T (fun i => some (i * sz, sz)) := by
  intro z parts w cs v hv hz hf
  unfold Instr.build
  rw [Sem.run_bind, hv]
  simp only [Result.andThen_ok, Sem.run_bind, run_underlying h1, h2, hz, hf, Sem.run_pure]
theorem ok_build {T : TypeId} {r : Rep α} {place : Nat → Option (Nat × Nat)} {parts : Array (Nat × Operand)} {y : α} (t : TyOk P T r) (hag : r.agg = true) (hpl : PlacesOk P T place) (ho : o.op = .build T parts)
    (k : FillOk P N place r parts.toList r.zero y) : OpOk P o N [] (fV r y) [] :=
  OpOk.ofRun fun h a w _ n => by
    obtain ⟨cs', hf, hr⟩ := k.run n (r.zrel h)
    refine ⟨.agg cs'.toArray, ?_, cs', hr, by rw [hag]; rfl⟩
    have h1 := hpl r.zc.toArray (parts.map fun q => (q.1, a.eval q.2)) w cs'.toArray _ (t.zero w) (cells_pack (r.zrel h)) (by rw [Array.toList_map]; exact hf)
    simp only [execOp, ho, Sem.run_bind, h1, Result.andThen_ok, Sem.run_pure]

/- an element type -/
def ElOk (P : Program) (E : TypeId) (r : Rep α) : Prop := (P.info? E).map (fun i => (i.size, Nat.ble i.bytes 512, i.zero)) = some (r.sz, true, some (pack r.agg r.zc))
theorem ElOk.out {E : TypeId} {r : Rep α} (h : ElOk P E r) : ∃ i, P.info? E = some i ∧ i.size = r.sz ∧ i.bytes ≤ 512 ∧ i.zero = some (pack r.agg r.zc) := by
  unfold ElOk at h
  cases hi : P.info? E with
  | none => rw [hi] at h; cases h
  | some i =>
    rw [hi] at h
    simp only [Option.map_some, Option.some.injEq, Prod.mk.injEq] at h
    exact ⟨i, rfl, h.1, Nat.le_of_ble_eq_true h.2.1, h.2.2⟩
theorem zero_row (r : Rep α) (n : Nat) : ((Array.range (n * r.sz)).map (fun j => r.zc.toArray[j % r.zc.toArray.size]!)) = (List.replicate n r.zc).flatten.toArray := by
  have hz := r.len (r.zrel (fun _ _ => none))
  apply Array.ext'
  simp only [Array.toList_map, Array.toList_range]
  induction n with
  | zero => simp
  | succ n ih =>
    rw [Nat.succ_mul, List.range_add, List.map_append, ih, List.replicate_succ', List.flatten_append]
    congr 1
    simp only [List.map_map, List.flatten_cons, List.flatten_nil, List.append_nil]
    apply List.ext_getElem?
    intro j
    simp only [List.getElem?_map, List.size_toArray, hz]
    by_cases hj : j < r.sz
    · rw [List.getElem?_range hj]
      simp only [Option.map_some, Function.comp_apply]
      rw [show (n * r.sz + j) % r.sz = j from by rw [Nat.add_comm, Nat.add_mul_mod_self_right, Nat.mod_eq_of_lt hj]]
      rw [List.getElem?_eq_getElem (by omega)]
      simp [hj, hz]
    · rw [List.getElem?_eq_none (by simp; omega), List.getElem?_eq_none (by omega)]; rfl

/- a literal slice -/
def cellsE (E : TypeId) (b : Nat) (lo hi : Nat) : Ent where
  claims := [(b, lo)]
  ok := fun _ m => ∃ cs, m b = some (.cells cs E (0, 0)) ∧ hi ≤ cs.size
  mono := fun _ x => x
  frame := fun hm ⟨cs, e, k⟩ => ⟨cs, by rw [hm (b, lo) (by simp)]; exact e, k⟩
def nilEnt : Ent := ⟨[], fun _ _ => True, fun _ x => x, fun _ x => x⟩
/- whoever holds this may append: the cells behind the slice's length are nobody else's -/
def tipE (E : TypeId) (sz : Nat) : OwnP := fun v e => (∃ base len, v = .slice base len len ∧ e = nilEnt) ∨ ∃ b off len cap, v = .slice (some ⟨b, off, none⟩) len cap ∧ e = cellsE E b (off + len * sz) (off + cap * sz)

theorem St.newRow {κ : Type} {B : Base} {h : H} {L : Nat → Option Ent} {F : κ → Option Ent} {w : World} (hst : St B h (Sum.elim L F) w) {r : Rep α} {cs rest : List Value} {xs : List α} (E : TypeId) (d cap : Nat) (hr : RelL r h cs xs) (hcap : (cs ++ rest).length = cap * r.sz) (hx : xs.length ≤ cap) :
    ∃ h', Hle h h' ∧ St B h' (Sum.elim (set1 L d (cellsE E w.heap.size (xs.length * r.sz) (cap * r.sz))) F) (w.alloc (.cells (cs ++ rest).toArray E)) ∧ SlRel r h' (.slice (some ⟨w.heap.size, 0, none⟩) xs.length cap) xs := by
  have hl := hr.len
  have h1 := hst.own_new (.cells (cs ++ rest).toArray E) d (cellsE E w.heap.size 0 (cap * r.sz)) (by simp [cellsE]) ⟨_, mem_new _ _, by simpa using Nat.le_of_eq hcap.symm⟩
  have hnew : (w.alloc (.cells (cs ++ rest).toArray E)).heap[w.heap.size]? = some (.cells (cs ++ rest).toArray E (0, 0)) := heap_alloc_new w _
  obtain ⟨hle, h2⟩ := h1.freeze (Sum.inl d) (e := cellsE E w.heap.size 0 (cap * r.sz)) (by simp [set1]) (b := w.heap.size) (lo := 0) (by simp [cellsE]) hnew (xs.length * r.sz) (by rw [List.size_toArray, hcap]; exact Nat.mul_le_mul_right _ hx)
    (L' := Sum.elim (set1 L d (cellsE E w.heap.size (xs.length * r.sz) (cap * r.sz))) F) (by
      intro k' e' hne he
      have := set1_ne k' e' hne he
      cases k' with
      | inr k => exact he
      | inl k =>
        have : k ≠ d := fun x => hne (by rw [x])
        simpa [set1, this] using he) (by
      intro e' he
      rw [set1_eq he]
      refine ⟨?_, ⟨_, hnew, by simpa using Nat.le_of_eq hcap.symm⟩⟩
      intro q hq
      simp [cellsE] at hq
      subst hq
      exact ⟨⟨(w.heap.size, 0), by simp [cellsE], rfl, Nat.zero_le _⟩, fun _ => Nat.le_refl _⟩)
  have htk : (cs ++ rest).toArray.toList.take (xs.length * r.sz) = cs := by
    rw [← hl]; simp
  rw [htk] at hle h2
  refine ⟨_, hle, h2, .inr ⟨w.heap.size, 0, cap, rfl, hx, ?_⟩⟩
  refine (hr.mono hle).refs fun j v hj => ?_
  have hjl := (List.getElem?_eq_some_iff.1 hj).1
  rw [Nat.zero_add, hadd_new hjl, ← hj, List.getElem?_eq_getElem hjl]

theorem run_newRow (E : TypeId) (cs : Array Value) (w : World) : (newRow E cs).run P w = .ok ⟨w.heap.size, 0, none⟩ (w.alloc (.cells cs E)) := rfl

theorem run_buildSlice {T E : TypeId} {r : Rep α} {n : Nat} {parts : Array (Nat × Operand)} {ys : List α} {h : H} {a : Act} (w : World) (t : TyOk P E r) (hT : P.underlying T = some (.slice E)) (hsz : n * r.sz ≤ 2 ^ 24)
    (k : FillOk P N (fun i => some (i * r.sz, r.sz)) (r.arr n) parts.toList (List.replicate n r.zero) ys) (hn : NAll N h a) :
    ∃ cs, RelL r h cs ys ∧ ys.length = n ∧ (Instr.buildSlice T n (parts.map fun q => (q.1, a.eval q.2))).run P w = .ok (.slice (some ⟨w.heap.size, 0, none⟩) n n) (w.alloc (.cells cs.toArray E)) := by
  obtain ⟨cs, hf, hl, hr⟩ := k.run hn ((r.arr n).zrel h)
  refine ⟨cs, hr, hl, ?_⟩
  have hz := cells_pack (r.zrel h)
  have hzl := r.len (r.zrel h)
  have hf' : Instr.fill (fun i => some (i * r.sz, r.sz)) (List.replicate n r.zc).flatten.toArray ((parts.map fun q => (q.1, a.eval q.2))).toList = some cs.toArray := by
    rw [Array.toList_map]; exact hf
  unfold Instr.buildSlice
  simp only [Sem.run_bind, run_underlying hT, Result.andThen_ok, t.size]
  rw [if_neg (by omega)]
  by_cases h0 : n * r.sz = 0
  · have hnil : (List.replicate n r.zc).flatten = [] := by
      apply List.eq_nil_of_length_eq_zero
      rw [List.length_flatten]; simp [hzl, h0]
    rw [hnil] at hf'
    simp only [h0, if_true, Sem.run_bind, Sem.run_pure, Result.andThen_ok]
    simp only [Array.range_zero', Array.map_empty]
    rw [show (#[] : Array Value) = [].toArray from rfl, hf']
    simp only [Sem.run_bind, run_newRow, Result.andThen_ok, Sem.run_pure]
  · simp only [h0, if_false, Sem.run_bind, t.zero, Sem.run_pure, Result.andThen_ok, hz]
    rw [zero_row, hf']
    simp only [Sem.run_bind, run_newRow, Result.andThen_ok, Sem.run_pure]

theorem ok_buildSlice {T E : TypeId} {r : Rep α} {n : Nat} {parts : Array (Nat × Operand)} {ys : List α} (t : TyOk P E r) (hT : P.underlying T = some (.slice E)) (hsz : Nat.ble (n * r.sz) (2 ^ 24) = true) (ho : o.op = .buildSlice T n parts)
    (k : FillOk P N (fun i => some (i * r.sz, r.sz)) (r.arr n) parts.toList (List.replicate n r.zero) ys) : OpOk P o N [] (fV (Rep.slice r) ys) [] := by
  intro κ B F L h a w hst hn _ _ next Q hnext
  obtain ⟨cs, hr, hl, hrun⟩ := run_buildSlice w t hT (Nat.le_of_ble_eq_true hsz) k hn
  unfold Oper.wp
  have : (execOp a.eval o).run P w = .ok (.value (.slice (some ⟨w.heap.size, 0, none⟩) n n)) (w.alloc (.cells cs.toArray E)) := by
    simp only [execOp, ho, Sem.run_bind, hrun, Result.andThen_ok, Sem.run_pure]
  rw [this]
  obtain ⟨hle, hst'⟩ := hst.allocP cs E
  refine hnext _ _ _ L hle (val_slice.2 (.inr ⟨w.heap.size, 0, n, by rw [hl], Nat.le_of_eq hl, ?_⟩)) hst' upd_nil
  refine (hr.mono hle).refs fun j v hj => ?_
  have hjl := (List.getElem?_eq_some_iff.1 hj).1
  rw [Nat.zero_add, hadd_new hjl, ← hj, List.getElem?_eq_getElem hjl]
theorem ok_buildTip {T E : TypeId} {r : Rep α} {n d : Nat} {parts : Array (Nat × Operand)} {ys : List α} (t : TyOk P E r) (hT : P.underlying T = some (.slice E)) (hsz : Nat.ble (n * r.sz) (2 ^ 24) = true) (hd : o.dst = some d) (ho : o.op = .buildSlice T n parts)
    (k : FillOk P N (fun i => some (i * r.sz, r.sz)) (r.arr n) parts.toList (List.replicate n r.zero) ys) : OpOk P o N [] (fV (Rep.slice r) ys) [(d, some (tipE E r.sz))] := by
  intro κ B F L h a w hst hn _ hdn next Q hnext
  obtain ⟨cs, hr, hl, hrun⟩ := run_buildSlice w t hT (Nat.le_of_ble_eq_true hsz) k hn
  unfold Oper.wp
  have : (execOp a.eval o).run P w = .ok (.value (.slice (some ⟨w.heap.size, 0, none⟩) n n)) (w.alloc (.cells cs.toArray E)) := by
    simp only [execOp, ho, Sem.run_bind, hrun, Result.andThen_ok, Sem.run_pure]
  rw [this]
  obtain ⟨h', hle, hst', hsl⟩ := hst.newRow (rest := []) E d n hr (by rw [List.append_nil, hr.len, hl]) (Nat.le_of_eq hl)
  rw [List.append_nil] at hst'
  rw [hl] at hst' hsl
  refine hnext _ h' _ _ hle (val_slice.2 hsl) hst' ?_
  rw [hd]
  exact upd_set1 (.inr ⟨_, 0, n, n, gt_put_same (hdn d hd), by simp⟩)
end Go.KB
