/- The operations, one rule each. No condition. -/
import Derived.Test.YtbedbjphickpaaaKRep
import Derived.WalkArith
import Derived.WideLaws
namespace Go.KB

def OpdOk (N : List (Nat × Fact)) (x : Operand) (f : Fact) : Prop := ∀ h a, NAll N h a → f.p h (f.dv a) (a.eval x)
section opd
variable {N : List (Nat × Fact)} {f : Fact} {s : Nat} {q0 q1 q2 q3 q4 q5 q6 q7 : Nat × Fact}
theorem opd0 : OpdOk ((s, f) :: N) (.tmp s) f := fun _ _ n => n.1
theorem opd1 : OpdOk (q0 :: (s, f) :: N) (.tmp s) f := fun _ _ n => n.2.1
theorem opd2 : OpdOk (q0 :: q1 :: (s, f) :: N) (.tmp s) f := fun _ _ n => n.2.2.1
theorem opd3 : OpdOk (q0 :: q1 :: q2 :: (s, f) :: N) (.tmp s) f := fun _ _ n => n.2.2.2.1
theorem opd4 : OpdOk (q0 :: q1 :: q2 :: q3 :: (s, f) :: N) (.tmp s) f := fun _ _ n => n.2.2.2.2.1
theorem opd5 : OpdOk (q0 :: q1 :: q2 :: q3 :: q4 :: (s, f) :: N) (.tmp s) f := fun _ _ n => n.2.2.2.2.2.1
theorem opd6 : OpdOk (q0 :: q1 :: q2 :: q3 :: q4 :: q5 :: (s, f) :: N) (.tmp s) f := fun _ _ n => n.2.2.2.2.2.2.1
theorem opd7 : OpdOk (q0 :: q1 :: q2 :: q3 :: q4 :: q5 :: q6 :: (s, f) :: N) (.tmp s) f := fun _ _ n => n.2.2.2.2.2.2.2.1
theorem opd8 : OpdOk (q0 :: q1 :: q2 :: q3 :: q4 :: q5 :: q6 :: q7 :: (s, f) :: N) (.tmp s) f := fun _ _ n => n.2.2.2.2.2.2.2.2.1
theorem opdI {k : IntKind} {n : Int} : OpdOk N (.const (.int k n)) (fV (Rep.int k) n) := fun _ _ _ => val_int.2 rfl
theorem opdB {b : Bool} : OpdOk N (.const (.bool b)) (fV Rep.bool b) := fun _ _ _ => val_bool.2 rfl
theorem opdS {x : ByteArray} {l : Str} (e : x = ⟨l.toArray⟩) : OpdOk N (.const (.string x)) (fV Rep.str l) := fun _ _ _ => val_str.2 (by rw [e]; rfl)
theorem opdN {α : Type} {r : Rep α} : OpdOk N (.const (.slice none 0 0)) (fV (Rep.slice r) []) := fun _ _ _ => val_slice.2 (.inl ⟨⟨none, rfl⟩, rfl⟩)
/- a fact known under a condition that holds -/
theorem OpdOk.on {c : Prop} {x : Operand} (k : OpdOk N x (Fact.when c f)) (hc : c) : OpdOk N x f := fun h a n => (k h a n).1 hc
end opd

theorem upd_nil {L : Nat → Option Ent} {d : Option Nat} {a : Act} : UpdOk L L (full [] d) a := by
  intro s
  cases hlk : lkU (full ([] : Upd) d) s with
  | none => rfl
  | some e =>
    have : e = none := by
      revert hlk; unfold full
      cases d with
      | none => intro h; cases h
      | some d' => simp only [List.nil_append, lkU]; cases Nat.beq d' s <;> intro h <;> cases h; rfl
    subst this
    trivial

section ops
variable {P : Program} {o : Oper} {N : List (Nat × Fact)} {f : Fact}

/- an operation that makes a value and leaves memory alone -/
theorem OpOk.ofRun (hr : ∀ h a w, (∀ {b o v}, h b o = some v → w.cell? ⟨b, o, none⟩ = some v) → NAll N h a → ∃ v, (execOp a.eval o).run P w = .ok (.value v) w ∧ f.p h (f.dv a) v) : OpOk P o N [] f [] := by
  intro κ B F L h a w hst hn _ _ next Q hnext
  obtain ⟨v, hv, hf⟩ := hr h a w (fun x => hst.ext x) hn
  unfold Oper.wp
  rw [hv]
  exact hnext v h w L (Hle.refl h) hf hst upd_nil

theorem ok_move {x : Operand} (ho : o.op = .move x) (hx : OpdOk N x f) : OpOk P o N [] f [] :=
  OpOk.ofRun fun h a w _ n => ⟨a.eval x, by simp [execOp, ho], hx h a n⟩
theorem ok_assign {x : Operand} (ho : o.op = .assign x) (hx : OpdOk N x f) : OpOk P o N [] f [] :=
  OpOk.ofRun fun h a w _ n => ⟨a.eval x, by simp [execOp, ho], hx h a n⟩

theorem ok_pick {c x y : Operand} {b : Bool} (ho : o.op = .pick c x y) (hc : OpdOk N c (fV Rep.bool b)) (hx : b = true → OpdOk N x f) (hy : b = false → OpdOk N y f) : OpOk P o N [] f [] :=
  OpOk.ofRun fun h a w _ n => by
    have hb := val_bool.1 (hc h a n)
    cases b with
    | true => exact ⟨a.eval x, by simp [execOp, ho, hb, asBool], hx rfl h a n⟩
    | false => exact ⟨a.eval y, by simp [execOp, ho, hb, asBool], hy rfl h a n⟩

theorem ok_or {c y : Operand} {b b' : Bool} (ho : o.op = .pick c (.const (.bool true)) y) (hc : OpdOk N c (fV Rep.bool b)) (hy : b = false → OpdOk N y (fV Rep.bool b')) : OpOk P o N [] (fV Rep.bool (b || b')) [] :=
  ok_pick ho hc (fun e => by rw [e]; exact opdB) (fun e => by rw [e]; exact hy e)
theorem ok_and {c x : Operand} {b b' : Bool} (ho : o.op = .pick c x (.const (.bool false))) (hc : OpdOk N c (fV Rep.bool b)) (hx : b = true → OpdOk N x (fV Rep.bool b')) : OpOk P o N [] (fV Rep.bool (b && b')) [] :=
  ok_pick ho hc (fun e => by rw [e]; exact hx e) (fun e => by rw [e]; exact opdB)

/- guarded operations -/
theorem OpOk.toWhen {K : List (Nat × OwnP)} {U : Upd} {c : Prop} (hc : c) (x : OpOk P o N K f U) : OpOk P o N K (Fact.when c f) U :=
  OpOk.out (f := f) (f' := Fact.when c f) rfl (fun _ _ _ hp => ⟨fun _ => hp, fun hn => absurd hc hn⟩) x
section guard
variable {all : List OS} {ol : List Oper} {Γ : Ctx} {Λ : Own} {s : OS} {j d : Nat} {b g : Bool}
theorem obl_tt (hg : o.guard = some (j, true)) (hd : ((nthO ol j).bind (·.dst)) = some d) (hh : s.rd.head? = some (d, some j)) (hj : (nth all j).f = fV Rep.bool b) (hs : s.f = Fact.when (b = true) f) (hU : s.U = []) (hds : o.dst.isSome = true)
    (hok : b = true → OpOk P o (s.rd.map (srcF all Γ)) (s.kd.map (srcK all Λ)) f []) : Obl P all ol Γ Λ o s := by
  unfold Obl; rw [hg]
  refine ⟨b = true, d, hd, hh, fun hb h dv v k => ?_, fun hb h dv v k e => ?_, fun hb => ?_, fun hb => ⟨hU, hds, fun h dv => ?_⟩⟩
  · rw [hj] at k; rw [← hb]; exact val_bool.1 k
  · rw [hj] at k; rw [val_bool.1 k] at e; cases e; exact hb rfl
  · rw [hs, hU]; exact (hok hb).toWhen hb
  · rw [hs]; exact ⟨fun hc => absurd hc hb, fun _ => rfl⟩
theorem obl_tf (hg : o.guard = some (j, false)) (hd : ((nthO ol j).bind (·.dst)) = some d) (hh : s.rd.head? = some (d, some j)) (hj : (nth all j).f = fV Rep.bool b) (hs : s.f = Fact.when ((!b) = true) f) (hU : s.U = []) (hds : o.dst.isSome = true)
    (hok : (!b) = true → OpOk P o (s.rd.map (srcF all Γ)) (s.kd.map (srcK all Λ)) f []) : Obl P all ol Γ Λ o s := by
  unfold Obl; rw [hg]
  refine ⟨(!b) = true, d, hd, hh, fun hb h dv v k => ?_, fun hb h dv v k e => ?_, fun hb => ?_, fun hb => ⟨hU, hds, fun h dv => ?_⟩⟩
  · rw [hj] at k; rw [val_bool.1 k]; cases b <;> simp at hb ⊢
  · rw [hj] at k; rw [val_bool.1 k] at e; cases e; exact hb rfl
  · rw [hs, hU]; exact (hok hb).toWhen hb
  · rw [hs]; exact ⟨fun hc => absurd hc hb, fun _ => rfl⟩
theorem obl_wt (hg : o.guard = some (j, true)) (hd : ((nthO ol j).bind (·.dst)) = some d) (hh : s.rd.head? = some (d, some j)) (hj : (nth all j).f = Fact.when (g = true) (fV Rep.bool b)) (hs : s.f = Fact.when ((g && b) = true) f) (hU : s.U = []) (hds : o.dst.isSome = true)
    (hok : (g && b) = true → OpOk P o (s.rd.map (srcF all Γ)) (s.kd.map (srcK all Λ)) f []) : Obl P all ol Γ Λ o s := by
  unfold Obl; rw [hg]
  refine ⟨(g && b) = true, d, hd, hh, fun hb h dv v k => ?_, fun hb h dv v k e => ?_, fun hb => ?_, fun hb => ⟨hU, hds, fun h dv => ?_⟩⟩
  · rw [hj] at k; rw [Bool.and_eq_true] at hb; rw [← hb.2]; exact val_bool.1 (k.1 hb.1)
  · rw [hj] at k
    by_cases hgt : g = true
    · rw [val_bool.1 (k.1 hgt)] at e; cases e; exact hb (by rw [hgt]; rfl)
    · rw [k.2 hgt] at e; cases e
  · rw [hs, hU]; exact (hok hb).toWhen hb
  · rw [hs]; exact ⟨fun hc => absurd hc hb, fun _ => rfl⟩
theorem obl_wf (hg : o.guard = some (j, false)) (hd : ((nthO ol j).bind (·.dst)) = some d) (hh : s.rd.head? = some (d, some j)) (hj : (nth all j).f = Fact.when (g = true) (fV Rep.bool b)) (hs : s.f = Fact.when ((g && !b) = true) f) (hU : s.U = []) (hds : o.dst.isSome = true)
    (hok : (g && !b) = true → OpOk P o (s.rd.map (srcF all Γ)) (s.kd.map (srcK all Λ)) f []) : Obl P all ol Γ Λ o s := by
  unfold Obl; rw [hg]
  refine ⟨(g && !b) = true, d, hd, hh, fun hb h dv v k => ?_, fun hb h dv v k e => ?_, fun hb => ?_, fun hb => ⟨hU, hds, fun h dv => ?_⟩⟩
  · rw [hj] at k; rw [Bool.and_eq_true] at hb; rw [val_bool.1 (k.1 hb.1)]; cases b <;> simp at hb ⊢
  · rw [hj] at k
    by_cases hgt : g = true
    · rw [val_bool.1 (k.1 hgt)] at e; cases e; exact hb (by rw [hgt]; rfl)
    · rw [k.2 hgt] at e; cases e
  · rw [hs, hU]; exact (hok hb).toWhen hb
  · rw [hs]; exact ⟨fun hc => absurd hc hb, fun _ => rfl⟩
end guard
theorem andL {a b : Bool} (h : (a && b) = true) : a = true := by cases a <;> simp at h ⊢
theorem notT {b : Bool} (h : b = false) : (!b) = true := by rw [h]; rfl
theorem andT {a b : Bool} (h : a = true) (h' : b = true) : (a && b) = true := by rw [h, h']; rfl

section int
variable {k : IntKind} {T T' : TypeId} {x y : Operand} {m n : Int}
theorem ok_add (ho : o.op = .binOp .add T x y T') (hx : OpdOk N x (fV (Rep.int k) m)) (hy : OpdOk N y (fV (Rep.int k) n)) : OpOk P o N [] (fV (Rep.int k) (k.wrap (m + n))) [] :=
  OpOk.ofRun fun h a w _ q => ⟨_, by simp [execOp, ho, val_int.1 (hx h a q), val_int.1 (hy h a q), binOp, Op.intArith, eqGuard], val_int.2 rfl⟩
theorem ok_sub (ho : o.op = .binOp .sub T x y T') (hx : OpdOk N x (fV (Rep.int k) m)) (hy : OpdOk N y (fV (Rep.int k) n)) : OpOk P o N [] (fV (Rep.int k) (k.wrap (m - n))) [] :=
  OpOk.ofRun fun h a w _ q => ⟨_, by simp [execOp, ho, val_int.1 (hx h a q), val_int.1 (hy h a q), binOp, Op.intArith, eqGuard], val_int.2 rfl⟩
theorem ok_mul (ho : o.op = .binOp .mul T x y T') (hx : OpdOk N x (fV (Rep.int k) m)) (hy : OpdOk N y (fV (Rep.int k) n)) : OpOk P o N [] (fV (Rep.int k) (k.wrap (m * n))) [] :=
  OpOk.ofRun fun h a w _ q => ⟨_, by simp [execOp, ho, val_int.1 (hx h a q), val_int.1 (hy h a q), binOp, Op.intArith, eqGuard], val_int.2 rfl⟩
def quoI (k : IntKind) (m n : Int) : Option Int := if n = 0 then none else some (k.wrap (m.tdiv n))
def remI (m n : Int) : Option Int := if n = 0 then none else some (m.tmod n)
theorem ok_quo {r : Int} (hq : quoI k m n = some r) (ho : o.op = .binOp .quo T x y T') (hx : OpdOk N x (fV (Rep.int k) m)) (hy : OpdOk N y (fV (Rep.int k) n)) : OpOk P o N [] (fV (Rep.int k) r) [] :=
  OpOk.ofRun fun h a w _ q => by
    unfold quoI at hq
    split at hq
    · cases hq
    · rename_i hn
      cases hq
      exact ⟨_, by simp [execOp, ho, val_int.1 (hx h a q), val_int.1 (hy h a q), binOp, Op.intDiv, eqGuard, hn], val_int.2 rfl⟩
theorem ok_rem {r : Int} (hq : remI m n = some r) (ho : o.op = .binOp .rem T x y T') (hx : OpdOk N x (fV (Rep.int k) m)) (hy : OpdOk N y (fV (Rep.int k) n)) : OpOk P o N [] (fV (Rep.int k) r) [] :=
  OpOk.ofRun fun h a w _ q => by
    unfold remI at hq
    split at hq
    · cases hq
    · rename_i hn
      cases hq
      exact ⟨_, by simp [execOp, ho, val_int.1 (hx h a q), val_int.1 (hy h a q), binOp, Op.intDiv, eqGuard, hn], val_int.2 rfl⟩
def bitI (op : BinOp) (k : IntKind) (m n : Int) : Int :=
  match op with
  | .and => k.wrap (BitVec.ofInt k.bits m &&& BitVec.ofInt k.bits n).toNat
  | .or => k.wrap (BitVec.ofInt k.bits m ||| BitVec.ofInt k.bits n).toNat
  | .xor => k.wrap (BitVec.ofInt k.bits m ^^^ BitVec.ofInt k.bits n).toNat
  | _ => k.wrap (BitVec.ofInt k.bits m &&& ~~~BitVec.ofInt k.bits n).toNat
theorem ok_bit {op : BinOp} (hop : op = .and ∨ op = .or ∨ op = .xor ∨ op = .andNot) (ho : o.op = .binOp op T x y T') (hx : OpdOk N x (fV (Rep.int k) m)) (hy : OpdOk N y (fV (Rep.int k) n)) :
    OpOk P o N [] (fV (Rep.int k) (bitI op k m n)) [] :=
  OpOk.ofRun fun h a w _ q => by
    rcases hop with rfl | rfl | rfl | rfl <;>
      exact ⟨.int k (bitI _ k m n), by simp [execOp, ho, val_int.1 (hx h a q), val_int.1 (hy h a q), binOp, Op.intBits, eqGuard, bitI], val_int.2 rfl⟩
def shlI (k : IntKind) (m n : Int) : Option Int := if n < 0 then none else some (k.wrap (m * 2 ^ (min n.toNat k.bits)))
def shrI (k : IntKind) (m n : Int) : Option Int := if n < 0 then none else some (m.fdiv (2 ^ (min n.toNat k.bits)))
theorem ok_shl {k' : IntKind} {r : Int} (hq : shlI k m n = some r) (ho : o.op = .binOp .shl T x y T') (hx : OpdOk N x (fV (Rep.int k) m)) (hy : OpdOk N y (fV (Rep.int k') n)) : OpOk P o N [] (fV (Rep.int k) r) [] :=
  OpOk.ofRun fun h a w _ q => by
    unfold shlI at hq
    split at hq
    · cases hq
    · rename_i hn
      cases hq
      exact ⟨_, by simp [execOp, ho, val_int.1 (hx h a q), val_int.1 (hy h a q), binOp, Op.shift, eqGuard, hn], val_int.2 rfl⟩
theorem ok_shr {k' : IntKind} {r : Int} (hq : shrI k m n = some r) (ho : o.op = .binOp .shr T x y T') (hx : OpdOk N x (fV (Rep.int k) m)) (hy : OpdOk N y (fV (Rep.int k') n)) : OpOk P o N [] (fV (Rep.int k) r) [] :=
  OpOk.ofRun fun h a w _ q => by
    unfold shrI at hq
    split at hq
    · cases hq
    · rename_i hn
      cases hq
      exact ⟨_, by simp [execOp, ho, val_int.1 (hx h a q), val_int.1 (hy h a q), binOp, Op.shift, eqGuard, hn], val_int.2 rfl⟩
def cmpI (op : BinOp) (m n : Int) : Bool :=
  match op with
  | .eql => m == n | .neq => m != n | .lss => decide (m < n) | .leq => decide (m ≤ n) | .gtr => decide (m > n) | _ => decide (m ≥ n)
theorem ok_cmp {op : BinOp} (hop : op = .eql ∨ op = .neq ∨ op = .lss ∨ op = .leq ∨ op = .gtr ∨ op = .geq) {b : Bool} (hb : cmpI op m n = b) (ho : o.op = .binOp op T x y T')
    (hx : OpdOk N x (fV (Rep.int k) m)) (hy : OpdOk N y (fV (Rep.int k) n)) : OpOk P o N [] (fV Rep.bool b) [] :=
  OpOk.ofRun fun h a w _ q => by
    subst hb
    rcases hop with rfl | rfl | rfl | rfl | rfl | rfl <;>
      exact ⟨_, by simp [execOp, ho, val_int.1 (hx h a q), val_int.1 (hy h a q), binOp, Op.intCmp, eqGuard]; rfl, val_bool.2 rfl⟩
theorem ok_conv {k' : IntKind} {D : TypeDesc} (hs : P.underlying T = some D) (hd : P.underlying T' = some (.int k')) (ho : o.op = .convert T T' x) (hx : OpdOk N x (fV (Rep.int k) m)) : OpOk P o N [] (fV (Rep.int k') (k'.wrap m)) [] :=
  OpOk.ofRun fun h a w _ q => ⟨_, by simp [execOp, ho, val_int.1 (hx h a q), convert, run_underlying hs, run_underlying hd, Conv.intToInt], val_int.2 rfl⟩
theorem ok_neg (ho : o.op = .unOp .neg T x) (hx : OpdOk N x (fV (Rep.int k) m)) : OpOk P o N [] (fV (Rep.int k) (k.wrap (0 - m))) [] :=
  OpOk.ofRun fun h a w _ q => ⟨_, by simp [execOp, ho, val_int.1 (hx h a q), Op.unary, Op.intArith]; rfl, val_int.2 (by simp)⟩
theorem ok_max {ts : Array TypeId} (ho : o.op = .call { callee := .builtin .max, args := #[x, y], argTypes := ts }) (hx : OpdOk N x (fV (Rep.int k) m)) (hy : OpdOk N y (fV (Rep.int k) n)) : OpOk P o N [] (fV (Rep.int k) (max m n)) [] :=
  OpOk.ofRun fun h a w _ q => ⟨.int k (max m n), by
    simp only [execOp, ho, resolve, invoke, builtin, Sem.run_bind, Sem.run_pure, Result.andThen_ok, List.map_toArray, List.map_cons, List.map_nil, val_int.1 (hx h a q), val_int.1 (hy h a q)]
    simp only [Builtin.max_, List.foldlM, Builtin.max2, Sem.run_bind, Sem.run_pure, Result.andThen_ok]
    congr 3; rw [Int.max_def]; split <;> split <;> omega, val_int.2 rfl⟩
theorem ok_min {ts : Array TypeId} (ho : o.op = .call { callee := .builtin .min, args := #[x, y], argTypes := ts }) (hx : OpdOk N x (fV (Rep.int k) m)) (hy : OpdOk N y (fV (Rep.int k) n)) : OpOk P o N [] (fV (Rep.int k) (min m n)) [] :=
  OpOk.ofRun fun h a w _ q => ⟨.int k (min m n), by
    simp only [execOp, ho, resolve, invoke, builtin, Sem.run_bind, Sem.run_pure, Result.andThen_ok, List.map_toArray, List.map_cons, List.map_nil, val_int.1 (hx h a q), val_int.1 (hy h a q)]
    simp only [Builtin.min_, List.foldlM, Builtin.min2, Sem.run_bind, Sem.run_pure, Result.andThen_ok]
    congr 3; rw [Int.min_def]; split <;> split <;> omega, val_int.2 rfl⟩
end int

section bools
variable {T T' : TypeId} {x y : Operand} {b c : Bool}
theorem ok_not (ho : o.op = .unOp .not T x) (hx : OpdOk N x (fV Rep.bool b)) : OpOk P o N [] (fV Rep.bool (!b)) [] :=
  OpOk.ofRun fun h a w _ q => ⟨_, by simp [execOp, ho, val_bool.1 (hx h a q), Op.unary], val_bool.2 rfl⟩
end bools
end ops
end Go.KB
