/- Pointers that are only read, nil among them; texts as rows of bytes. No condition. -/
import Derived.Test.YtbedbjphickpaaaKMap
import Derived.Laws.Pointers
import Derived.Lib.ConvBytes
namespace Go.KB
variable {P : Program} {o : Oper} {N : List (Nat × Fact)} {α β : Type}

def PtrRel (r : Rep α) (h : H) (v : Value) : Option α → Prop
  | none => v = .pointer none
  | some x => ∃ b off, v = .pointer (some ⟨b, off, none⟩) ∧ RefRel r h b off x
def Rep.ptr (r : Rep α) : Rep (Option α) where
  sz := 1
  agg := false
  rel := fun h cs x => ∃ v, cs = [v] ∧ PtrRel r h v x
  zero := none
  zc := [.pointer none]
  one := fun _ => rfl
  len := fun ⟨v, e, _⟩ => by rw [e]; rfl
  flat := fun {h cs x} ⟨v, e, k⟩ c hc => by
    rw [e] at hc; simp at hc; rw [hc]
    cases x with
    | none => rw [show v = _ from k]; rfl
    | some x => obtain ⟨b, off, rfl, _⟩ := k; rfl
  mono := fun {h h' cs x} hl ⟨v, e, k⟩ => ⟨v, e, by
    cases x with
    | none => exact k
    | some x => obtain ⟨b, off, e, k⟩ := k; exact ⟨b, off, e, k.mono hl⟩⟩
  zrel := fun _ => ⟨_, rfl, rfl⟩
theorem val_ptr {r : Rep α} {h : H} {v : Value} {x : Option α} : (Rep.ptr r).val h v x ↔ PtrRel r h v x :=
  ⟨fun ⟨_, ⟨v', e, k⟩, e'⟩ => by rw [e', e]; exact k, fun k => ⟨[v], ⟨v, rfl, k⟩, rfl⟩⟩
theorem opdP0 {r : Rep α} : OpdOk N (.const (.pointer none)) (fV (Rep.ptr r) none) := fun _ _ _ => val_ptr.2 rfl
theorem opdP {r : Rep α} {x : Operand} {y : α} (hx : OpdOk N x (fRef r y)) : OpdOk N x (fV (Rep.ptr r) (some y)) := fun h a n => val_ptr.2 (hx h a n)
theorem opdPg {r : Rep α} {x : Operand} {q : Option α} {y : α} (hq : q = some y) (hx : OpdOk N x (fV (Rep.ptr r) q)) : OpdOk N x (fRef r y) := fun h a n => by
  have := val_ptr.1 (hx h a n)
  rw [hq] at this
  exact this
theorem ok_nilCheck {r : Rep α} {x : Operand} {y : α} (ho : o.op = .nilCheck x) (hx : OpdOk N x (fRef r y)) : OpOk P o N [] (fRef r y) [] :=
  OpOk.ofRun fun h a w _ n => by
    obtain ⟨b, off, hv, hr⟩ := hx h a n
    exact ⟨.pointer (some ⟨b, off, none⟩), by simp [execOp, ho, hv], b, off, rfl, hr⟩
theorem ok_neP {T T' : TypeId} {r : Rep α} {x : Operand} {q : Option α} (hT : P.underlying T = some (.pointer (P.pointee T))) (ho : o.op = .binOp .neq T x (.const (.pointer none)) T') (hx : OpdOk N x (fV (Rep.ptr r) q)) : OpOk P o N [] (fV Rep.bool q.isSome) [] :=
  OpOk.ofRun fun h a w _ n => by
    have hg : ∀ p, (eqGuard .neq T x (.const (.pointer none)) (.pointer p) (.pointer none)).run P w = .ok () w := by
      intro p; unfold eqGuard; rfl
    have hv := val_ptr.1 (hx h a n)
    cases q with
    | none =>
      have hv : a.eval x = .pointer none := hv
      exact ⟨.bool false, by simp only [execOp, ho, hv, show a.eval (.const (.pointer none)) = .pointer none from rfl, hg, Sem.run_bind, Result.andThen_ok, Sem.run_pure, run_neq_pointer_nil w T none hT]; rfl, val_bool.2 rfl⟩
    | some y =>
      obtain ⟨b, off, hv, _⟩ := hv
      exact ⟨.bool true, by simp only [execOp, ho, hv, show a.eval (.const (.pointer none)) = .pointer none from rfl, hg, Sem.run_bind, Result.andThen_ok, Sem.run_pure, run_neq_pointer_nil w T (some ⟨b, off, none⟩) hT]; rfl, val_bool.2 rfl⟩
theorem ok_eqP {T T' : TypeId} {r : Rep α} {x : Operand} {q : Option α} (hT : P.underlying T = some (.pointer (P.pointee T))) (ho : o.op = .binOp .eql T x (.const (.pointer none)) T') (hx : OpdOk N x (fV (Rep.ptr r) q)) : OpOk P o N [] (fV Rep.bool q.isNone) [] :=
  OpOk.ofRun fun h a w _ n => by
    have hg : ∀ p, (eqGuard .eql T x (.const (.pointer none)) (.pointer p) (.pointer none)).run P w = .ok () w := by
      intro p; unfold eqGuard; rfl
    have hv := val_ptr.1 (hx h a n)
    cases q with
    | none =>
      have hv : a.eval x = .pointer none := hv
      exact ⟨.bool true, by simp only [execOp, ho, hv, show a.eval (.const (.pointer none)) = .pointer none from rfl, hg, Sem.run_bind, Result.andThen_ok, Sem.run_pure, run_eql_pointer_nil w T none hT]; rfl, val_bool.2 rfl⟩
    | some y =>
      obtain ⟨b, off, hv, _⟩ := hv
      exact ⟨.bool false, by simp only [execOp, ho, hv, show a.eval (.const (.pointer none)) = .pointer none from rfl, hg, Sem.run_bind, Result.andThen_ok, Sem.run_pure, run_eql_pointer_nil w T (some ⟨b, off, none⟩) hT]; rfl, val_bool.2 rfl⟩

/- a world with one block more -/
theorem St.newCells {κ : Type} {B : Base} {h : H} {L : κ → Option Ent} {w w' : World} (k : κ) (hst : St B h L w) {c : Array Value} {t : TypeId} {fr : Nat × Nat} (hsz : w'.heap.size = w.heap.size + 1) (hos : w'.os = w.os) (htp : w'.tape = w.tape) (hout : w'.output = w.output)
    (hold : ∀ b, b < w.heap.size → w'.heap[b]? = w.heap[b]?) (hnew : w'.heap[w.heap.size]? = some (.cells c t fr)) {cs : List Value} (hcs : ∀ (j : Nat) (v : Value), cs[j]? = some v → c[j]? = some v) :
    Hle h (hadd h w.heap.size cs) ∧ St B (hadd h w.heap.size cs) L w' := by
  have hle : Hle h (hadd h w.heap.size cs) := hadd_le (fun o v x _ => by rw [hst.fresh (Nat.le_refl _)] at x; cases x)
  refine ⟨hle, hst.step k (fun _ => False) (fun b hb => hb.elim) (by omega) hos htp hout (fun b hb _ => hold b hb) hle (fun b o hb _ => hadd_old (by omega)) ?_ (fun _ _ _ x => x) ?_⟩
  · rintro b o v (hb | hb) hv
    · exact hb.elim
    · by_cases hbe : b = w.heap.size
      · subst hbe
        by_cases ho : o < cs.length
        · rw [hadd_new ho, ← List.getElem?_eq_getElem ho] at hv
          rw [cell?_eq _ _ _ _ _ _ hnew]
          exact hcs o v hv
        · simp only [hadd, if_true, if_neg ho] at hv
          rw [hst.fresh (Nat.le_refl _)] at hv; cases hv
      · rw [hadd_old hbe, hst.fresh hb] at hv; cases hv
  · intro e he
    obtain ⟨h1, h2⟩ := hst.own he
    refine ⟨fun c hc => ?_, e.mono hle (e.frame (fun c hc => hold c.1 (h1 c hc).2.1) h2)⟩
    obtain ⟨h3, h4, h5⟩ := h1 c hc
    exact ⟨.inr ⟨e, he, c, hc, rfl⟩, by omega, fun o ho => by rw [hadd_old (by omega)]; exact h5 o ho⟩
def bytesI (s : Str) : List Int := s.map fun c => ((UInt8.toNat c : Nat) : Int)
theorem ok_convBytes {S T E : TypeId} {x : Operand} {s : Str} (hS : P.underlying S = some .string) (hT : P.underlying T = some (.slice E)) (hE : P.underlying E = some (.int .u8)) (ho : o.op = .convert S T x) (hx : OpdOk N x (fV Rep.str s)) :
    OpOk P o N [] (fV (Rep.slice (Rep.int .u8)) (bytesI s)) [] := by
  intro κ B F L h a w hst hn _ _ next Q hnext
  have hv := val_str.1 (hx h a hn)
  unfold Oper.wp
  have : (execOp a.eval o).run P w = .ok (.value (.slice (some ⟨w.heap.size, 0, none⟩) s.length (grownCap w s.length 0 E))) (Lib.bytesWorld w E ⟨s.toArray⟩) := by
    have hr := Lib.run_convert_string_bytes (P := P) w S T E ⟨s.toArray⟩ hS hT hE
    simp only [execOp, ho, hv, Sem.run_bind, hr, Result.andThen_ok, Sem.run_pure]
    rfl
  rw [this]
  obtain ⟨hle, hst'⟩ := hst.newCells (Sum.inl 0) (w' := Lib.bytesWorld w E ⟨s.toArray⟩) (cs := s.map fun c => Value.int .u8 ((UInt8.toNat c : Nat) : Int)) (Lib.bytesWorld_size w E _) rfl rfl rfl (fun b hb => Lib.bytesWorld_at_old w E _ b hb) (Lib.bytesWorld_at_new w E _) (fun j v hj => by
    have hjl := (List.getElem?_eq_some_iff.1 hj).1
    rw [List.length_map] at hjl
    unfold Lib.bytesCells
    rw [Array.getElem?_append_left (by simpa using hjl)]
    simpa using hj)
  refine hnext _ _ _ L hle (val_slice.2 (.inr ⟨w.heap.size, 0, _, by unfold bytesI; rw [List.length_map], by unfold bytesI; rw [List.length_map]; exact grownCap_ge w _ 0 E, fun i x hi => ?_⟩)) hst' upd_nil
  refine ⟨[.int .u8 x], rfl, fun j v hj => ?_⟩
  match j, hj with
  | 0, hj =>
    cases hj
    have hil := (List.getElem?_eq_some_iff.1 hi).1
    have hil2 : i < s.length := by simpa [bytesI] using hil
    simp only [Rep.int, Rep.scalar, Nat.mul_one, Nat.zero_add, Nat.add_zero]
    rw [hadd_new (by rw [List.length_map]; exact hil2)]
    congr 1
    unfold bytesI at hi
    rw [List.getElem?_map, List.getElem?_eq_getElem hil2] at hi
    simp only [Option.map_some, Option.some.injEq] at hi
    rw [List.getElem_map, hi]
theorem wp_ifT {Q : Exit → Act → World → Prop} {x y : Code} {a : Act} {w : World} (h : x.wp P Q a w) : (Code.cond (.const (.bool true)) x y).wp P Q a w :=
  wp_cond_split (t := true) rfl (fun _ => h) (fun e => by cases e)
theorem wp_ifF {Q : Exit → Act → World → Prop} {x y : Code} {a : Act} {w : World} (h : y.wp P Q a w) : (Code.cond (.const (.bool false)) x y).wp P Q a w :=
  wp_cond_split (t := false) rfl (fun e => by cases e) (fun _ => h)
end Go.KB
