/- How plain data lie in slots and cells. No condition. -/
import Derived.Test.YtbedbjphickpaaaKLogic
import Derived.Laws.CopyRow
import Derived.Deep.MidRow
import GoSem.ClaimData
namespace Go.KB

abbrev Str := List UInt8
def pack (agg : Bool) (cs : List Value) : Value := bif agg then .agg cs.toArray else (match cs with | c :: _ => c | [] => undef)

def gI (k : IntKind) (n : Int) : Prop := k.min ≤ n ∧ n ≤ k.max
def gS (s : Str) : Prop := s.length ≤ maxLen
def gL {α : Type} (G : α → Prop) (l : List α) : Prop := l.length ≤ maxLen ∧ ∀ x ∈ l, G x

structure Rep (α : Type) where
  sz : Nat
  agg : Bool
  rel : H → List Value → α → Prop
  zero : α
  zc : List Value
  one : agg = false → sz = 1
  len : ∀ {h cs x}, rel h cs x → cs.length = sz
  flat : ∀ {h cs x}, rel h cs x → ∀ c ∈ cs, c.oneCell' = true
  mono : ∀ {h h' cs x}, Hle h h' → rel h cs x → rel h' cs x
  zrel : ∀ h, rel h zc zero

section
variable {α β : Type}
def Rep.val (r : Rep α) (h : H) (v : Value) (x : α) : Prop := ∃ cs, r.rel h cs x ∧ v = pack r.agg cs
theorem Rep.val_mono (r : Rep α) {h h' : H} {v : Value} {x : α} (hl : Hle h h') : r.val h v x → r.val h' v x := fun ⟨cs, a, b⟩ => ⟨cs, r.mono hl a, b⟩
def RefRel (r : Rep α) (h : H) (b off : Nat) (x : α) : Prop := ∃ cs, r.rel h cs x ∧ ∀ j v, cs[j]? = some v → h b (off + j) = some v
theorem RefRel.mono {r : Rep α} {h h' : H} {b off : Nat} {x : α} (hl : Hle h h') : RefRel r h b off x → RefRel r h' b off x :=
  fun ⟨cs, a, c⟩ => ⟨cs, r.mono hl a, fun j v hj => hl _ _ _ (c j v hj)⟩

def fV (r : Rep α) (x : α) : Fact := ⟨none, fun h _ v => r.val h v x, fun hl => r.val_mono hl⟩
def fRef (r : Rep α) (x : α) : Fact := ⟨none, fun h _ v => ∃ b off, v = .pointer (some ⟨b, off, none⟩) ∧ RefRel r h b off x, fun hl ⟨b, off, e, x⟩ => ⟨b, off, e, x.mono hl⟩⟩

def Rep.scalar (f : α → Value) (z : α) (h1 : ∀ x, (f x).oneCell' = true) : Rep α where
  sz := 1
  agg := false
  rel := fun _ cs x => cs = [f x]
  zero := z
  zc := [f z]
  one := fun _ => rfl
  len := fun e => by rw [e]; rfl
  flat := fun e c hc => by rw [e] at hc; simp at hc; rw [hc]; exact h1 _
  mono := fun _ e => e
  zrel := fun _ => rfl
def Rep.int (k : IntKind) : Rep Int := Rep.scalar (fun n => .int k n) 0 (fun _ => rfl)
def Rep.bool : Rep Bool := Rep.scalar (fun b => .bool b) false (fun _ => rfl)
def Rep.str : Rep Str := Rep.scalar (fun s => .string ⟨s.toArray⟩) [] (fun _ => rfl)

theorem val_int {k : IntKind} {h : H} {v : Value} {x : Int} : (Rep.int k).val h v x ↔ v = .int k x :=
  ⟨fun ⟨_, e, e'⟩ => by rw [e', show _ = _ from e]; rfl, fun e => ⟨[.int k x], rfl, e⟩⟩
theorem val_bool {h : H} {v : Value} {x : Bool} : Rep.bool.val h v x ↔ v = .bool x :=
  ⟨fun ⟨_, e, e'⟩ => by rw [e', show _ = _ from e]; rfl, fun e => ⟨[.bool x], rfl, e⟩⟩
theorem val_str {h : H} {v : Value} {x : Str} : Rep.str.val h v x ↔ v = .string ⟨x.toArray⟩ :=
  ⟨fun ⟨_, e, e'⟩ => by rw [e', show _ = _ from e]; rfl, fun e => ⟨[.string ⟨x.toArray⟩], rfl, e⟩⟩

/- a slice that is only read -/
def SlRel (r : Rep α) (h : H) (v : Value) (xs : List α) : Prop :=
  ((∃ base, v = .slice base 0 0) ∧ xs = []) ∨
  ∃ b off cap, v = .slice (some ⟨b, off, none⟩) xs.length cap ∧ xs.length ≤ cap ∧ ∀ i x, xs[i]? = some x → RefRel r h b (off + i * r.sz) x
theorem SlRel.mono {r : Rep α} {h h' : H} {v : Value} {xs : List α} (hl : Hle h h') : SlRel r h v xs → SlRel r h' v xs
  | .inl e => .inl e
  | .inr ⟨b, off, cap, e, hc, k⟩ => .inr ⟨b, off, cap, e, hc, fun i x hx => (k i x hx).mono hl⟩
def Rep.slice (r : Rep α) : Rep (List α) where
  sz := 1
  agg := false
  rel := fun h cs xs => ∃ v, cs = [v] ∧ SlRel r h v xs
  zero := []
  zc := [.slice none 0 0]
  one := fun _ => rfl
  len := fun ⟨v, e, _⟩ => by rw [e]; rfl
  flat := fun ⟨v, e, k⟩ c hc => by
    rw [e] at hc; simp at hc; rw [hc]
    rcases k with ⟨⟨base, rfl⟩, _⟩ | ⟨b, off, cap, rfl, _⟩ <;> rfl
  mono := fun hl ⟨v, e, k⟩ => ⟨v, e, k.mono hl⟩
  zrel := fun _ => ⟨_, rfl, .inl ⟨⟨none, rfl⟩, rfl⟩⟩
theorem val_slice {r : Rep α} {h : H} {v : Value} {xs : List α} : (Rep.slice r).val h v xs ↔ SlRel r h v xs :=
  ⟨fun ⟨_, ⟨v', e, k⟩, e'⟩ => by rw [e', e]; exact k, fun k => ⟨[v], ⟨v, rfl, k⟩, rfl⟩⟩

/- structs -/
def Rep.unit : Rep Unit where
  sz := 0
  agg := true
  rel := fun _ cs _ => cs = []
  zero := ()
  zc := []
  one := fun e => by cases e
  len := fun e => by rw [e]; rfl
  flat := fun e c hc => by rw [e] at hc; cases hc
  mono := fun _ e => e
  zrel := fun _ => rfl
def Rep.prod (r : Rep α) (s : Rep β) : Rep (α × β) where
  sz := r.sz + s.sz
  agg := true
  rel := fun h cs x => ∃ c d, cs = c ++ d ∧ r.rel h c x.1 ∧ s.rel h d x.2
  zero := (r.zero, s.zero)
  zc := r.zc ++ s.zc
  one := fun e => by cases e
  len := fun ⟨c, d, e, a, b⟩ => by rw [e, List.length_append, r.len a, s.len b]
  flat := fun ⟨c, d, e, a, b⟩ x hx => by
    rw [e] at hx
    rcases List.mem_append.1 hx with hx | hx
    · exact r.flat a x hx
    · exact s.flat b x hx
  mono := fun hl ⟨c, d, e, a, b⟩ => ⟨c, d, e, r.mono hl a, s.mono hl b⟩
  zrel := fun h => ⟨r.zc, s.zc, rfl, r.zrel h, s.zrel h⟩
def Rep.iso (r : Rep α) (f : β → α) (g : α → β) (fg : ∀ x, f (g x) = x) : Rep β where
  sz := r.sz
  agg := r.agg
  rel := fun h cs x => r.rel h cs (f x)
  zero := g r.zero
  zc := r.zc
  one := r.one
  len := fun e => r.len e
  flat := fun e => r.flat e
  mono := fun hl e => r.mono hl e
  zrel := fun h => by rw [fg]; exact r.zrel h

/- a part of a value: where it lies, how it is read and changed -/
def Lens (r : Rep α) (s : Rep β) (off : Nat) (get : α → β) (set : α → β → α) : Prop :=
  ∀ h cs x, r.rel h cs x → ∃ p c q, cs = p ++ c ++ q ∧ p.length = off ∧ s.rel h c (get x) ∧ ∀ h' c' y, Hle h h' → s.rel h' c' y → r.rel h' (p ++ c' ++ q) (set x y)
theorem Lens.fst (r : Rep α) (s : Rep β) : Lens (r.prod s) r 0 (fun x => x.1) (fun x y => (y, x.2)) :=
  fun _ _ _ ⟨c, d, e, a, b⟩ => ⟨[], c, d, by simp [e], rfl, a, fun _ c' _ hl hy => ⟨c', d, by simp, hy, s.mono hl b⟩⟩
theorem Lens.snd (r : Rep α) (s : Rep β) : Lens (r.prod s) s r.sz (fun x => x.2) (fun x y => (x.1, y)) :=
  fun _ _ _ ⟨c, d, e, a, b⟩ => ⟨c, d, [], by simp [e], r.len a, b, fun _ d' _ hl hy => ⟨c, d', by simp, r.mono hl a, hy⟩⟩
theorem Lens.iso (r : Rep α) (f : β → α) (g : α → β) (fg : ∀ x, f (g x) = x) : Lens (r.iso f g fg) r 0 f (fun _ y => g y) :=
  fun _ cs _ e => ⟨[], cs, [], by simp, rfl, e, fun _ c' y _ hy => by simpa [Rep.iso, fg] using hy⟩
theorem Lens.comp {γ : Type} {r : Rep α} {s : Rep β} {t : Rep γ} {o1 o2 : Nat} {g1 : α → β} {s1 : α → β → α} {g2 : β → γ} {s2 : β → γ → β}
    (x : Lens r s o1 g1 s1) (y : Lens s t o2 g2 s2) : Lens r t (o1 + o2) (fun a => g2 (g1 a)) (fun a c => s1 a (s2 (g1 a) c)) := by
  intro h cs a ha
  obtain ⟨p, c, q, e, hp, hc, k⟩ := x h cs a ha
  obtain ⟨p', c', q', e', hp', hc', k'⟩ := y h c _ hc
  refine ⟨p ++ p', c', q' ++ q, by rw [e, e']; simp, by simp [hp, hp'], hc', fun h' c'' z hl hz => ?_⟩
  have := k h' _ _ hl (k' h' c'' z hl hz)
  simpa using this
theorem Lens.refl (r : Rep α) : Lens r r 0 (fun x => x) (fun _ y => y) :=
  fun _ cs _ e => ⟨[], cs, [], by simp, rfl, e, fun _ c' _ _ hy => by simpa using hy⟩
theorem Lens.ref {r : Rep α} {s : Rep β} {o : Nat} {get : α → β} {set : α → β → α} (l : Lens r s o get set) {h : H} {b off : Nat} {x : α} (k : RefRel r h b off x) : RefRel s h b (off + o) (get x) := by
  obtain ⟨cs, a, c⟩ := k
  obtain ⟨p, c', q, rfl, hp, hc, _⟩ := l h cs x a
  refine ⟨c', hc, fun j v hj => ?_⟩
  have : (p ++ c' ++ q)[o + j]? = some v := by
    rw [List.append_assoc, List.getElem?_append_right (by omega), ← hp, Nat.add_sub_cancel_left]
    rw [List.getElem?_append_left (List.getElem?_eq_some_iff.1 hj).1]; exact hj
  have := c _ _ this
  rwa [← Nat.add_assoc] at this

theorem cells_pack {r : Rep α} {h : H} {cs : List Value} {x : α} (k : r.rel h cs x) : (pack r.agg cs).cells = cs.toArray := by
  cases ha : r.agg with
  | true => rfl
  | false =>
    have h1 := r.len k
    rw [r.one ha] at h1
    match cs, h1 with
    | [c], _ =>
      have := r.flat k c (by simp)
      cases c <;> first | rfl | (simp [Value.oneCell'] at this)

/- a type of the program and its reading -/
structure TyOk (P : Program) (T : TypeId) (r : Rep α) : Prop where
  size : ∀ w, (sizeOf T).run P w = .ok r.sz w
  agg : ∀ w, (isAgg T).run P w = .ok r.agg w
  zero : ∀ w, (zeroValue T).run P w = .ok (pack r.agg r.zc) w

theorem run_load_cells {P : Program} {T : TypeId} {r : Rep α} (t : TyOk P T r) {b off : Nat} {w : World} {cs : List Value} (hl : cs.length = r.sz)
    (hc : ∀ j v, cs[j]? = some v → w.cell? ⟨b, off + j, none⟩ = some v) :
    (Instr.loadAt T (.pointer (some ⟨b, off, none⟩))).run P w = .ok (pack r.agg cs) w := by
  have hcells : ∀ j v, cs[j]? = some v → w.cell? ((⟨b, off, none⟩ : Addr).add j) = some v := fun j v hj => by rw [Addr.add_mid]; exact hc j v hj
  cases ha : r.agg with
  | true =>
    have hrun := run_loadCells_list (P := P) w ⟨b, off, none⟩ cs hcells
    rw [hl] at hrun
    simp [Instr.loadAt, Instr.sureAddr, loadVar, t.agg, ha, t.size, hrun, pack]
  | false =>
    rw [r.one ha] at hl
    match cs, hl with
    | [c], _ =>
      have := hcells 0 c rfl
      simp only [Addr.add_zero'] at this
      simp [Instr.loadAt, Instr.sureAddr, loadVar, t.agg, ha, pack, load, Sem.run, this]
theorem run_load_ref {P : Program} {T : TypeId} {r : Rep α} (t : TyOk P T r) {h : H} {b off : Nat} {x : α} {w : World} (hx : ∀ {b o v}, h b o = some v → w.cell? ⟨b, o, none⟩ = some v)
    {cs : List Value} (hr : r.rel h cs x) (hc : ∀ j v, cs[j]? = some v → h b (off + j) = some v) :
    (Instr.loadAt T (.pointer (some ⟨b, off, none⟩))).run P w = .ok (pack r.agg cs) w := run_load_cells t (r.len hr) (fun j v hj => hx (hc j v hj))

/- a value is written into the cells of a row -/
theorem run_store_cells {P : Program} {T T' : TypeId} {r : Rep α} (t : TyOk P T r) {h : H} {b : Nat} {w : World} {p c q cs : List Value} {x : α} (hr : r.rel h cs x) (hb : w.heap[b]? = some (.cells (p ++ c ++ q).toArray T' (0, 0)))
    (hc : c.length = r.sz) : (Instr.storeAt T (.pointer (some ⟨b, p.length, none⟩)) (pack r.agg cs)).run P w = .ok () (w.setRow b (p ++ cs ++ q).toArray) := by
  have hl := r.len hr
  have h1 := run_storeCells_at P b p.length T' cs 0 (p ++ c ++ q).toArray w hb (by simp; omega) (r.flat hr)
  have h2 : (pack r.agg cs).cells = cs.toArray := cells_pack hr
  simp only [Instr.storeAt, Instr.sureAddr, Sem.run_bind, Sem.run_pure, Result.andThen_ok, storeVar, t.size, h2]
  rw [if_neg (by simp [hl])]
  rw [h1]
  congr 3
  simp only [Nat.add_zero, List.append_assoc, List.take_left', List.append_cancel_left_eq]
  rw [show p.length + cs.length = (p ++ c).length by simp; omega, ← List.append_assoc, List.drop_left]
end
end Go.KB
