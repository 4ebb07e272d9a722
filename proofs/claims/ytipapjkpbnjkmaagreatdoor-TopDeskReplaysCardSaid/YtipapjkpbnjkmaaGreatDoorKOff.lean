/- Pointers into an object: nil, or a place in it; keys that are structs. No condition. -/
import Derived.Test.YtipapjkpbnjkmaaGreatDoorKZf
namespace Go.KB
variable {P : Program} {o : Oper} {N : List (Nat × jJa)} {α β : Type}

def qYp (sv v : Value) : Option Nat → Prop
  | none => v = .pointer none
  | some n => ∃ b, sv = .pointer (some ⟨b, 0, none⟩) ∧ v = .pointer (some ⟨b, n, none⟩)
def Rep.poff (sv : Value) : Rep (Option Nat) where
  sz := 1
  agg := false
  rel := fun _ cs x => ∃ v, cs = [v] ∧ qYp sv v x
  zero := none
  zc := [.pointer none]
  one := fun _ => rfl
  len := fun ⟨v, e, _⟩ => by rw [e]; rfl
  flat := fun {h cs x} ⟨v, e, k⟩ c hc => by
    rw [e] at hc; simp at hc; rw [hc]
    cases x with
    | none => rw [show v = _ from k]; rfl
    | some x => obtain ⟨b, _, rfl⟩ := k; rfl
  mono := fun _ e => e
  zrel := fun _ => ⟨_, rfl, rfl⟩
theorem jLv {sv : Value} {h : H} {v : Value} {x : Option Nat} : (Rep.poff sv).val h v x ↔ qYp sv v x :=
  ⟨fun ⟨_, ⟨v', e, k⟩, e'⟩ => by rw [e', e]; exact k, fun k => ⟨[v], ⟨v, rfl, k⟩, rfl⟩⟩
theorem jKu.poff {T : TypeId} {r : Rep α} (t : jKu P T (Rep.ptr r)) (sv : Value) : jKu P T (Rep.poff sv) := ⟨t.size, t.agg, t.zero⟩
theorem opdPf0 {sv : Value} : jJ9 N (.const (.pointer none)) (fV (Rep.poff sv) none) := fun _ _ _ => jLv.2 rfl
theorem jFt {sv : Value} {n : Nat} {x : Operand} (hx : jJ9 N x (jZg sv n)) : jJ9 N x (fV (Rep.poff sv) (some n)) := fun h a n => jLv.2 (hx h a n)
theorem jW6 {sv : Value} {x : Operand} {q : Option Nat} {n : Nat} (hq : q = some n) (ho : o.op = .nilCheck x) (hx : jJ9 N x (fV (Rep.poff sv) q)) : jXg P o N [] (jZg sv n) [] :=
  jXg.ofRun fun h a w _ k => by
    have hv := jLv.1 (hx h a k)
    rw [hq] at hv
    obtain ⟨b, hs, hv⟩ := hv
    exact ⟨.pointer (some ⟨b, n, none⟩), by simp [execOp, ho, hv], b, hs, rfl⟩
theorem jNs {T T' : TypeId} {sv : Value} {x : Operand} {q : Option Nat} (hT : P.underlying T = some (.pointer (P.pointee T))) (ho : o.op = .binOp .neq T x (.const (.pointer none)) T') (hx : jJ9 N x (fV (Rep.poff sv) q)) : jXg P o N [] (fV Rep.bool q.isSome) [] :=
  jXg.ofRun fun h a w _ n => by
    have hg : ∀ p, (eqGuard .neq T x (.const (.pointer none)) (.pointer p) (.pointer none)).run P w = .ok () w := by
      intro p; unfold eqGuard; rfl
    have hv := jLv.1 (hx h a n)
    cases q with
    | none =>
      have hv : a.eval x = .pointer none := hv
      exact ⟨.bool false, by simp only [execOp, ho, hv, show a.eval (.const (.pointer none)) = .pointer none from rfl, hg, Sem.run_bind, Result.andThen_ok, Sem.run_pure, run_neq_pointer_nil w T none hT]; rfl, jX2.2 rfl⟩
    | some y =>
      obtain ⟨b, _, hv⟩ := hv
      exact ⟨.bool true, by simp only [execOp, ho, hv, show a.eval (.const (.pointer none)) = .pointer none from rfl, hg, Sem.run_bind, Result.andThen_ok, Sem.run_pure, run_neq_pointer_nil w T (some ⟨b, y, none⟩) hT]; rfl, jX2.2 rfl⟩
theorem ok_eqPf {T T' : TypeId} {sv : Value} {x : Operand} {q : Option Nat} (hT : P.underlying T = some (.pointer (P.pointee T))) (ho : o.op = .binOp .eql T x (.const (.pointer none)) T') (hx : jJ9 N x (fV (Rep.poff sv) q)) : jXg P o N [] (fV Rep.bool q.isNone) [] :=
  jXg.ofRun fun h a w _ n => by
    have hg : ∀ p, (eqGuard .eql T x (.const (.pointer none)) (.pointer p) (.pointer none)).run P w = .ok () w := by
      intro p; unfold eqGuard; rfl
    have hv := jLv.1 (hx h a n)
    cases q with
    | none =>
      have hv : a.eval x = .pointer none := hv
      exact ⟨.bool true, by simp only [execOp, ho, hv, show a.eval (.const (.pointer none)) = .pointer none from rfl, hg, Sem.run_bind, Result.andThen_ok, Sem.run_pure, run_eql_pointer_nil w T none hT]; rfl, jX2.2 rfl⟩
    | some y =>
      obtain ⟨b, _, hv⟩ := hv
      exact ⟨.bool false, by simp only [execOp, ho, hv, show a.eval (.const (.pointer none)) = .pointer none from rfl, hg, Sem.run_bind, Result.andThen_ok, Sem.run_pure, run_eql_pointer_nil w T (some ⟨b, y, none⟩) hT]; rfl, jX2.2 rfl⟩
/- what lies at a place that is computed -/
structure qXu (r : Rep α) (q : Rep β) (get : α → Nat → Option β) (set : α → Nat → β → Option α) : Prop where
  get : ∀ n y z, get y n = some z → ∃ g st, Lens r q n g st ∧ g y = z
  set : ∀ n y z y', set y n z = some y' → ∃ g st, Lens r q n g st ∧ st y z = y'
theorem qXu.nil {r : Rep α} {q : Rep β} : qXu r q (fun _ _ => none) (fun _ _ _ => none) := ⟨(fun _ _ _ h => nomatch h), (fun _ _ _ _ h => nomatch h)⟩
theorem qXu.cons {r : Rep α} {q : Rep β} {off : Nat} {g : α → β} {st : α → β → α} {get : α → Nat → Option β} {set : α → Nat → β → Option α} (l : Lens r q off g st) (d : qXu r q get set) :
    qXu r q (fun y n => bif Nat.beq n off then some (g y) else get y n) (fun y n z => bif Nat.beq n off then some (st y z) else set y n z) where
  get := fun n y z h => by
    cases hb : Nat.beq n off with
    | true => rw [jWm] at hb; subst hb; rw [show Nat.beq n n = true from jWm.2 rfl] at h; cases h; exact ⟨g, st, l, rfl⟩
    | false => rw [hb] at h; exact d.get n y z h
  set := fun n y z y' h => by
    cases hb : Nat.beq n off with
    | true => rw [jWm] at hb; subst hb; rw [show Nat.beq n n = true from jWm.2 rfl] at h; cases h; exact ⟨g, st, l, rfl⟩
    | false => rw [hb] at h; exact d.set n y z y' h
theorem jHy {sv : Value} {T T' : TypeId} {r : Rep α} {q : Rep β} {ts : List jJ4} {s n : Nat} {x : Operand} {y : α} {z : β} {get : α → Nat → Option β} {set : α → Nat → β → Option α} (l : qXu r q get set) (hy : get y n = some z) (t : jKu P T q) (ho : o.op = .load T x) (hx : jJ9 N x (jZg sv n)) :
    jXg P o N [(s, atV (jJ6 T' r y ts) sv)] (fV q z) [] := by
  obtain ⟨g, st, l, e⟩ := l.get n y z hy
  subst e
  exact jQ4 l t ho hx
theorem jDj {sv : Value} {T T' : TypeId} {r : Rep α} {q : Rep β} {s n : Nat} {x v : Operand} {y y' : α} {z : β} {get : α → Nat → Option β} {set : α → Nat → β → Option α} (l : qXu r q get set) (hy : set y n z = some y') (t : jKu P T q) (hd : o.dst = none)
    (ho : o.op = .store T x v) (hx : jJ9 N x (jZg sv n)) (hv : jJ9 N v (fV q z)) : jXg P o N [(s, atV (jJ6 T' r y []) sv)] jJa.triv [(s, some (atV (jJ6 T' r y' []) sv))] := by
  obtain ⟨g, st, l, e⟩ := l.set n y z y' hy
  exact qJa l t rfl hd ho hx hv e.symm

/- keys that are structs -/
theorem jBd.struct [DecidableEq α] {K : TypeId} {r : Rep α} {f : α → Value} {g : α → α → Bool} {fs : Array Field} (e : jN4 P 9999 K r g) (hK : P.underlying K = some (.struct fs)) (hg : ∀ x y, g x y = decide (x = y))
    (his : ∀ {h u x}, r.val h u x → u = f x) (hval : ∀ h x, r.val h (f x) x) (hchk : ∀ (e : Bool) (w : World) (x : α), (Instr.checkKey e 10000 K (f x)).run P w = .ok () w) (hbits : ∀ x, Instr.sameBits 10000 (f x) (f x) = true) : jBd P K r f where
  is := his
  chk := hchk
  find := qXh hK (fun _ _ => rfl) fun x y w => by
    have := e ⟨fun _ _ => none, 0⟩ (f x) (f y) x y w (hval _ x) (hval _ y)
    rw [hg] at this
    exact this
  bits := hbits
  val := hval
theorem qJ9 (s : Str) : ((⟨s.toArray⟩ : ByteArray) == ⟨s.toArray⟩) = true := (MapKept.bytes_beq _ _).2 rfl
/- a pointer to an element that is kept; a variable that holds a pointer to an object -/
theorem jK6 {s off : Nat} {x : Operand} (ho : o.op = .nilCheck x) (hx : jJ9 N x (fEl s off)) : jXg P o N [] (fEl s off) [] :=
  jXg.ofRun fun h a w _ k => by
    obtain ⟨b, len, cap, hd, hv⟩ := hx h a k
    exact ⟨.pointer (some ⟨b, off, none⟩), by simp [execOp, ho, hv], b, len, cap, hd, rfl⟩
theorem qJd {z : Value} {hz : z.oneCell' = true} {x : Operand} {sv : Value} (hc : sv.oneCell' = true) (hx : jJ9 N x (fIs sv)) : jJ9 N x (fV (Rep.rawZ z hz) sv) :=
  fun h a n => ⟨[sv], ⟨rfl, hc⟩, hx h a n⟩
theorem At.oneC {κ : Type} {B : Base} {h0 : H} {Γ : Ctx} {Λ : Own} {F : κ → Option Ent} {n : Nat} {a : Act} {w : World} {T : TypeId} {r : Rep α} {x : α} {ts : List jJ4} {sv : Value} (k : Nat) (hAt : At B h0 Γ Λ F n a w) (hs : Λ k = some (atV (jJ6 T r x ts) sv)) : sv.oneCell' = true := by
  obtain ⟨h, L, hle, hst, hOw, hsat, hsz, hdf⟩ := hAt
  obtain ⟨e, hL, b, us, hv, _⟩ := hOw k _ hs
  rw [hv]; rfl
end Go.KB
