/- Pointers into an object: nil, or a place in it; keys that are structs. No condition. -/
import Derived.Test.YtblfmjackdhajaaKZf
namespace Go.KB
variable {P : Program} {o : Oper} {N : List (Nat × jJm)} {α β : Type}

def qJr (sv v : Value) : Option Nat → Prop
  | none => v = .pointer none
  | some n => ∃ b, sv = .pointer (some ⟨b, 0, none⟩) ∧ v = .pointer (some ⟨b, n, none⟩)
def Rep.poff (sv : Value) : Rep (Option Nat) where
  sz := 1
  agg := false
  rel := fun _ cs x => ∃ v, cs = [v] ∧ qJr sv v x
  zero := none
  zc := [.pointer none]
  one := fun _ => rfl
  len := fun ⟨v, e, _⟩ => by rw [e]; rfl
  flat := fun {h cs x} ⟨v, e, k⟩ c hc => by
    rw [e] at hc; simp at hc; rw [hc]
    cases x with
    | none => rw [show v = _ from k]; rfl
    | some x => obtain ⟨b, _, rfl⟩ := k; rfl
  mono := fun _ e => e
  zrel := fun _ => ⟨_, rfl, rfl⟩
theorem jDv {sv : Value} {h : H} {v : Value} {x : Option Nat} : (Rep.poff sv).val h v x ↔ qJr sv v x :=
  ⟨fun ⟨_, ⟨v', e, k⟩, e'⟩ => by rw [e', e]; exact k, fun k => ⟨[v], ⟨v, rfl, k⟩, rfl⟩⟩
theorem jYc.poff {T : TypeId} {r : Rep α} (t : jYc P T (Rep.ptr r)) (sv : Value) : jYc P T (Rep.poff sv) := ⟨t.size, t.agg, t.zero⟩
theorem opdPf0 {sv : Value} : jQz N (.const (.pointer none)) (fV (Rep.poff sv) none) := fun _ _ _ => jDv.2 rfl
theorem jBt {sv : Value} {n : Nat} {x : Operand} (hx : jQz N x (jZy sv n)) : jQz N x (fV (Rep.poff sv) (some n)) := fun h a n => jDv.2 (hx h a n)
theorem jKx {sv : Value} {x : Operand} {q : Option Nat} {n : Nat} (hq : q = some n) (ho : o.op = .nilCheck x) (hx : jQz N x (fV (Rep.poff sv) q)) : jQ1 P o N [] (jZy sv n) [] :=
  jQ1.ofRun fun h a w _ k => by
    have hv := jDv.1 (hx h a k)
    rw [hq] at hv
    obtain ⟨b, hs, hv⟩ := hv
    exact ⟨.pointer (some ⟨b, n, none⟩), by simp [execOp, ho, hv], b, hs, rfl⟩
theorem jPc {T T' : TypeId} {sv : Value} {x : Operand} {q : Option Nat} (hT : P.underlying T = some (.pointer (P.pointee T))) (ho : o.op = .binOp .neq T x (.const (.pointer none)) T') (hx : jQz N x (fV (Rep.poff sv) q)) : jQ1 P o N [] (fV Rep.bool q.isSome) [] :=
  jQ1.ofRun fun h a w _ n => by
    have hg : ∀ p, (eqGuard .neq T x (.const (.pointer none)) (.pointer p) (.pointer none)).run P w = .ok () w := by
      intro p; unfold eqGuard; rfl
    have hv := jDv.1 (hx h a n)
    cases q with
    | none =>
      have hv : a.eval x = .pointer none := hv
      exact ⟨.bool false, by simp only [execOp, ho, hv, show a.eval (.const (.pointer none)) = .pointer none from rfl, hg, Sem.run_bind, Result.andThen_ok, Sem.run_pure, run_neq_pointer_nil w T none hT]; rfl, jX0.2 rfl⟩
    | some y =>
      obtain ⟨b, _, hv⟩ := hv
      exact ⟨.bool true, by simp only [execOp, ho, hv, show a.eval (.const (.pointer none)) = .pointer none from rfl, hg, Sem.run_bind, Result.andThen_ok, Sem.run_pure, run_neq_pointer_nil w T (some ⟨b, y, none⟩) hT]; rfl, jX0.2 rfl⟩
theorem ok_eqPf {T T' : TypeId} {sv : Value} {x : Operand} {q : Option Nat} (hT : P.underlying T = some (.pointer (P.pointee T))) (ho : o.op = .binOp .eql T x (.const (.pointer none)) T') (hx : jQz N x (fV (Rep.poff sv) q)) : jQ1 P o N [] (fV Rep.bool q.isNone) [] :=
  jQ1.ofRun fun h a w _ n => by
    have hg : ∀ p, (eqGuard .eql T x (.const (.pointer none)) (.pointer p) (.pointer none)).run P w = .ok () w := by
      intro p; unfold eqGuard; rfl
    have hv := jDv.1 (hx h a n)
    cases q with
    | none =>
      have hv : a.eval x = .pointer none := hv
      exact ⟨.bool true, by simp only [execOp, ho, hv, show a.eval (.const (.pointer none)) = .pointer none from rfl, hg, Sem.run_bind, Result.andThen_ok, Sem.run_pure, run_eql_pointer_nil w T none hT]; rfl, jX0.2 rfl⟩
    | some y =>
      obtain ⟨b, _, hv⟩ := hv
      exact ⟨.bool false, by simp only [execOp, ho, hv, show a.eval (.const (.pointer none)) = .pointer none from rfl, hg, Sem.run_bind, Result.andThen_ok, Sem.run_pure, run_eql_pointer_nil w T (some ⟨b, y, none⟩) hT]; rfl, jX0.2 rfl⟩
/- what lies at a place that is computed -/
structure jCb (r : Rep α) (q : Rep β) (get : α → Nat → Option β) (set : α → Nat → β → Option α) : Prop where
  get : ∀ n y z, get y n = some z → ∃ g st, Lens r q n g st ∧ g y = z
  set : ∀ n y z y', set y n z = some y' → ∃ g st, Lens r q n g st ∧ st y z = y'
theorem jCb.nil {r : Rep α} {q : Rep β} : jCb r q (fun _ _ => none) (fun _ _ _ => none) := ⟨(fun _ _ _ h => nomatch h), (fun _ _ _ _ h => nomatch h)⟩
theorem jCb.cons {r : Rep α} {q : Rep β} {off : Nat} {g : α → β} {st : α → β → α} {get : α → Nat → Option β} {set : α → Nat → β → Option α} (l : Lens r q off g st) (d : jCb r q get set) :
    jCb r q (fun y n => bif Nat.beq n off then some (g y) else get y n) (fun y n z => bif Nat.beq n off then some (st y z) else set y n z) where
  get := fun n y z h => by
    cases hb : Nat.beq n off with
    | true => rw [jWf] at hb; subst hb; rw [show Nat.beq n n = true from jWf.2 rfl] at h; cases h; exact ⟨g, st, l, rfl⟩
    | false => rw [hb] at h; exact d.get n y z h
  set := fun n y z y' h => by
    cases hb : Nat.beq n off with
    | true => rw [jWf] at hb; subst hb; rw [show Nat.beq n n = true from jWf.2 rfl] at h; cases h; exact ⟨g, st, l, rfl⟩
    | false => rw [hb] at h; exact d.set n y z y' h
theorem jBv {sv : Value} {T T' : TypeId} {r : Rep α} {q : Rep β} {ts : List jXm} {s n : Nat} {x : Operand} {y : α} {z : β} {get : α → Nat → Option β} {set : α → Nat → β → Option α} (l : jCb r q get set) (hy : get y n = some z) (t : jYc P T q) (ho : o.op = .load T x) (hx : jQz N x (jZy sv n)) :
    jQ1 P o N [(s, atV (jZq T' r y ts) sv)] (fV q z) [] := by
  obtain ⟨g, st, l, e⟩ := l.get n y z hy
  subst e
  exact jQ4 l t ho hx
theorem jFh {sv : Value} {T T' : TypeId} {r : Rep α} {q : Rep β} {s n : Nat} {x v : Operand} {y y' : α} {z : β} {get : α → Nat → Option β} {set : α → Nat → β → Option α} (l : jCb r q get set) (hy : set y n z = some y') (t : jYc P T q) (hd : o.dst = none)
    (ho : o.op = .store T x v) (hx : jQz N x (jZy sv n)) (hv : jQz N v (fV q z)) : jQ1 P o N [(s, atV (jZq T' r y []) sv)] jJm.triv [(s, some (atV (jZq T' r y' []) sv))] := by
  obtain ⟨g, st, l, e⟩ := l.set n y z y' hy
  exact jSn l t rfl hd ho hx hv e.symm

/- keys that are structs -/
theorem jU3.struct [DecidableEq α] {K : TypeId} {r : Rep α} {f : α → Value} {g : α → α → Bool} {fs : Array Field} (e : jHw P 9999 K r g) (hK : P.underlying K = some (.struct fs)) (hg : ∀ x y, g x y = decide (x = y))
    (his : ∀ {h u x}, r.val h u x → u = f x) (hval : ∀ h x, r.val h (f x) x) (hchk : ∀ (e : Bool) (w : World) (x : α), (Instr.checkKey e 10000 K (f x)).run P w = .ok () w) (hbits : ∀ x, Instr.sameBits 10000 (f x) (f x) = true) : jU3 P K r f where
  is := his
  chk := hchk
  find := jCj hK (fun _ _ => rfl) fun x y w => by
    have := e ⟨fun _ _ => none, 0⟩ (f x) (f y) x y w (hval _ x) (hval _ y)
    rw [hg] at this
    exact this
  bits := hbits
  val := hval
theorem jSf (s : Str) : ((⟨s.toArray⟩ : ByteArray) == ⟨s.toArray⟩) = true := (MapKept.bytes_beq _ _).2 rfl
end Go.KB
