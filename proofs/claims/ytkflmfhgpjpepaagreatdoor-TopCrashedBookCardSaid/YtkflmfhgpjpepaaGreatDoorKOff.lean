/- Pointers into an object: nil, or a place in it; keys that are structs. No condition. -/
import Derived.Test.YtkflmfhgpjpepaaGreatDoorKZf
namespace Go.KB
variable {P : Program} {o : Oper} {N : List (Nat × jJs)} {α β : Type}

def qKv (sv v : Value) : Option Nat → Prop
  | none => v = .pointer none
  | some n => ∃ b, sv = .pointer (some ⟨b, 0, none⟩) ∧ v = .pointer (some ⟨b, n, none⟩)
def Rep.poff (sv : Value) : Rep (Option Nat) where
  sz := 1
  agg := false
  rel := fun _ cs x => ∃ v, cs = [v] ∧ qKv sv v x
  zero := none
  zc := [.pointer none]
  one := fun _ => rfl
  len := fun ⟨v, e, _⟩ => by rw [e]; rfl
  flat := fun {h cs x} ⟨v, e, k⟩ c hc => by
    rw [e] at hc; simp at hc; rw [hc]
    cases x with
    | none => rw [show v = _ from k]; rfl
    | some x => obtain ⟨b, _, rfl⟩ := k; rfl
  mono := fun _ e => e
  zrel := fun _ => ⟨_, rfl, rfl⟩
theorem jLp {sv : Value} {h : H} {v : Value} {x : Option Nat} : (Rep.poff sv).val h v x ↔ qKv sv v x :=
  ⟨fun ⟨_, ⟨v', e, k⟩, e'⟩ => by rw [e', e]; exact k, fun k => ⟨[v], ⟨v, rfl, k⟩, rfl⟩⟩
theorem jK9.poff {T : TypeId} {r : Rep α} (t : jK9 P T (Rep.ptr r)) (sv : Value) : jK9 P T (Rep.poff sv) := ⟨t.size, t.agg, t.zero⟩
theorem opdPf0 {sv : Value} : jQq N (.const (.pointer none)) (fV (Rep.poff sv) none) := fun _ _ _ => jLp.2 rfl
theorem jF6 {sv : Value} {n : Nat} {x : Operand} (hx : jQq N x (jZx sv n)) : jQq N x (fV (Rep.poff sv) (some n)) := fun h a n => jLp.2 (hx h a n)
theorem jWg {sv : Value} {x : Operand} {q : Option Nat} {n : Nat} (hq : q = some n) (ho : o.op = .nilCheck x) (hx : jQq N x (fV (Rep.poff sv) q)) : jXy P o N [] (jZx sv n) [] :=
  jXy.ofRun fun h a w _ k => by
    have hv := jLp.1 (hx h a k)
    rw [hq] at hv
    obtain ⟨b, hs, hv⟩ := hv
    exact ⟨.pointer (some ⟨b, n, none⟩), by simp [execOp, ho, hv], b, hs, rfl⟩
theorem jM4 {T T' : TypeId} {sv : Value} {x : Operand} {q : Option Nat} (hT : P.underlying T = some (.pointer (P.pointee T))) (ho : o.op = .binOp .neq T x (.const (.pointer none)) T') (hx : jQq N x (fV (Rep.poff sv) q)) : jXy P o N [] (fV Rep.bool q.isSome) [] :=
  jXy.ofRun fun h a w _ n => by
    have hg : ∀ p, (eqGuard .neq T x (.const (.pointer none)) (.pointer p) (.pointer none)).run P w = .ok () w := by
      intro p; unfold eqGuard; rfl
    have hv := jLp.1 (hx h a n)
    cases q with
    | none =>
      have hv : a.eval x = .pointer none := hv
      exact ⟨.bool false, by simp only [execOp, ho, hv, show a.eval (.const (.pointer none)) = .pointer none from rfl, hg, Sem.run_bind, Result.andThen_ok, Sem.run_pure, run_neq_pointer_nil w T none hT]; rfl, jXt.2 rfl⟩
    | some y =>
      obtain ⟨b, _, hv⟩ := hv
      exact ⟨.bool true, by simp only [execOp, ho, hv, show a.eval (.const (.pointer none)) = .pointer none from rfl, hg, Sem.run_bind, Result.andThen_ok, Sem.run_pure, run_neq_pointer_nil w T (some ⟨b, y, none⟩) hT]; rfl, jXt.2 rfl⟩
theorem ok_eqPf {T T' : TypeId} {sv : Value} {x : Operand} {q : Option Nat} (hT : P.underlying T = some (.pointer (P.pointee T))) (ho : o.op = .binOp .eql T x (.const (.pointer none)) T') (hx : jQq N x (fV (Rep.poff sv) q)) : jXy P o N [] (fV Rep.bool q.isNone) [] :=
  jXy.ofRun fun h a w _ n => by
    have hg : ∀ p, (eqGuard .eql T x (.const (.pointer none)) (.pointer p) (.pointer none)).run P w = .ok () w := by
      intro p; unfold eqGuard; rfl
    have hv := jLp.1 (hx h a n)
    cases q with
    | none =>
      have hv : a.eval x = .pointer none := hv
      exact ⟨.bool true, by simp only [execOp, ho, hv, show a.eval (.const (.pointer none)) = .pointer none from rfl, hg, Sem.run_bind, Result.andThen_ok, Sem.run_pure, run_eql_pointer_nil w T none hT]; rfl, jXt.2 rfl⟩
    | some y =>
      obtain ⟨b, _, hv⟩ := hv
      exact ⟨.bool false, by simp only [execOp, ho, hv, show a.eval (.const (.pointer none)) = .pointer none from rfl, hg, Sem.run_bind, Result.andThen_ok, Sem.run_pure, run_eql_pointer_nil w T (some ⟨b, y, none⟩) hT]; rfl, jXt.2 rfl⟩
/- what lies at a place that is computed -/
structure qXf (r : Rep α) (q : Rep β) (get : α → Nat → Option β) (set : α → Nat → β → Option α) : Prop where
  get : ∀ n y z, get y n = some z → ∃ g st, Lens r q n g st ∧ g y = z
  set : ∀ n y z y', set y n z = some y' → ∃ g st, Lens r q n g st ∧ st y z = y'
theorem qXf.nil {r : Rep α} {q : Rep β} : qXf r q (fun _ _ => none) (fun _ _ _ => none) := ⟨(fun _ _ _ h => nomatch h), (fun _ _ _ _ h => nomatch h)⟩
theorem qXf.cons {r : Rep α} {q : Rep β} {off : Nat} {g : α → β} {st : α → β → α} {get : α → Nat → Option β} {set : α → Nat → β → Option α} (l : Lens r q off g st) (d : qXf r q get set) :
    qXf r q (fun y n => bif Nat.beq n off then some (g y) else get y n) (fun y n z => bif Nat.beq n off then some (st y z) else set y n z) where
  get := fun n y z h => by
    cases hb : Nat.beq n off with
    | true => rw [jWx] at hb; subst hb; rw [show Nat.beq n n = true from jWx.2 rfl] at h; cases h; exact ⟨g, st, l, rfl⟩
    | false => rw [hb] at h; exact d.get n y z h
  set := fun n y z y' h => by
    cases hb : Nat.beq n off with
    | true => rw [jWx] at hb; subst hb; rw [show Nat.beq n n = true from jWx.2 rfl] at h; cases h; exact ⟨g, st, l, rfl⟩
    | false => rw [hb] at h; exact d.set n y z y' h
theorem jHj {sv : Value} {T T' : TypeId} {r : Rep α} {q : Rep β} {ts : List jJ2} {s n : Nat} {x : Operand} {y : α} {z : β} {get : α → Nat → Option β} {set : α → Nat → β → Option α} (l : qXf r q get set) (hy : get y n = some z) (t : jK9 P T q) (ho : o.op = .load T x) (hx : jQq N x (jZx sv n)) :
    jXy P o N [(s, atV (jJ5 T' r y ts) sv)] (fV q z) [] := by
  obtain ⟨g, st, l, e⟩ := l.get n y z hy
  subst e
  exact jQe l t ho hx
theorem jDk {sv : Value} {T T' : TypeId} {r : Rep α} {q : Rep β} {s n : Nat} {x v : Operand} {y y' : α} {z : β} {get : α → Nat → Option β} {set : α → Nat → β → Option α} (l : qXf r q get set) (hy : set y n z = some y') (t : jK9 P T q) (hd : o.dst = none)
    (ho : o.op = .store T x v) (hx : jQq N x (jZx sv n)) (hv : jQq N v (fV q z)) : jXy P o N [(s, atV (jJ5 T' r y []) sv)] jJs.triv [(s, some (atV (jJ5 T' r y' []) sv))] := by
  obtain ⟨g, st, l, e⟩ := l.set n y z y' hy
  exact qJm l t rfl hd ho hx hv e.symm

/- keys that are structs -/
theorem jBg.struct [DecidableEq α] {K : TypeId} {r : Rep α} {f : α → Value} {g : α → α → Bool} {fs : Array Field} (e : jFd P 9999 K r g) (hK : P.underlying K = some (.struct fs)) (hg : ∀ x y, g x y = decide (x = y))
    (his : ∀ {h u x}, r.val h u x → u = f x) (hval : ∀ h x, r.val h (f x) x) (hchk : ∀ (e : Bool) (w : World) (x : α), (Instr.checkKey e 10000 K (f x)).run P w = .ok () w) (hbits : ∀ x, Instr.sameBits 10000 (f x) (f x) = true) : jBg P K r f where
  is := his
  chk := hchk
  find := qQ6 hK (fun _ _ => rfl) fun x y w => by
    have := e ⟨fun _ _ => none, 0⟩ (f x) (f y) x y w (hval _ x) (hval _ y)
    rw [hg] at this
    exact this
  bits := hbits
  val := hval
theorem qQz (s : Str) : ((⟨s.toArray⟩ : ByteArray) == ⟨s.toArray⟩) = true := (MapKept.bytes_beq _ _).2 rfl
/- a pointer to an element that is kept; a variable that holds a pointer to an object -/
theorem jK3 {s off : Nat} {x : Operand} (ho : o.op = .nilCheck x) (hx : jQq N x (fEl s off)) : jXy P o N [] (fEl s off) [] :=
  jXy.ofRun fun h a w _ k => by
    obtain ⟨b, len, cap, hd, hv⟩ := hx h a k
    exact ⟨.pointer (some ⟨b, off, none⟩), by simp [execOp, ho, hv], b, len, cap, hd, rfl⟩
theorem qW6 {z : Value} {hz : z.oneCell' = true} {x : Operand} {sv : Value} (hc : sv.oneCell' = true) (hx : jQq N x (fIs sv)) : jQq N x (fV (Rep.rawZ z hz) sv) :=
  fun h a n => ⟨[sv], ⟨rfl, hc⟩, hx h a n⟩
theorem At.oneC {κ : Type} {B : Base} {h0 : H} {Γ : Ctx} {Λ : Own} {F : κ → Option Ent} {n : Nat} {a : Act} {w : World} {T : TypeId} {r : Rep α} {x : α} {ts : List jJ2} {sv : Value} (k : Nat) (hAt : At B h0 Γ Λ F n a w) (hs : Λ k = some (atV (jJ5 T r x ts) sv)) : sv.oneCell' = true := by
  obtain ⟨h, L, hle, hst, hOw, hsat, hsz, hdf⟩ := hAt
  obtain ⟨e, hL, b, us, hv, _⟩ := hOw k _ hs
  rw [hv]; rfl
end Go.KB
