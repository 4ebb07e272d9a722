/- Texts; comparisons of bools and structs. No condition. -/
import Derived.Test.YtbedbjphickpaaaKMem4
import Derived.WalkSpells
namespace Go.KB
variable {P : Program} {o : Oper} {N : List (Nat × Fact)} {f : Fact} {α β : Type}

theorem toList_mk (s : Str) : ByteArray.toList ⟨s.toArray⟩ = s := by rw [ByteArray.toList_eq]
theorem size_mk (s : Str) : ByteArray.size ⟨s.toArray⟩ = s.length := rfl

theorem ok_indexS {T : TypeId} {k : IntKind} {x i : Operand} {s : Str} {n : Int} {c : UInt8} (hq : idx s n = some c) (hT : P.underlying T = some .string) (ho : o.op = .index T x i) (hx : OpdOk N x (fV Rep.str s)) (hi : OpdOk N i (fV (Rep.int k) n)) :
    OpOk P o N [] (fV (Rep.int .u8) (c.toNat : Int)) [] :=
  OpOk.ofRun fun h a w _ q => by
    obtain ⟨h0, h1, h2⟩ := idx_spec hq
    refine ⟨.int .u8 (c.toNat : Int), ?_, val_int.2 rfl⟩
    have hc : (⟨s.toArray⟩ : ByteArray)[n.toNat]? = some c := by
      have : n.toNat < (⟨s.toArray⟩ : ByteArray).size := h1
      rw [getElem?_pos (⟨s.toArray⟩ : ByteArray) n.toNat this]
      have e : s[n.toNat]? = some s[n.toNat] := List.getElem?_eq_getElem h1
      rw [e] at h2; cases h2
      rfl
    simp [execOp, ho, val_str.1 (hx h a q), val_int.1 (hi h a q), Instr.index, asIntOf, run_underlying hT, h0, hc]

def cmpS (op : BinOp) (a b : Str) : Bool :=
  match op with
  | .eql => a == b | .neq => !(a == b) | .lss => Op.bytesLess a b | .leq => (Op.bytesLess a b || a == b) | .gtr => !(Op.bytesLess a b || a == b) | _ => !(Op.bytesLess a b)
theorem ok_cmpS {op : BinOp} {T T' : TypeId} {x y : Operand} {s t : Str} {b : Bool} (hop : op = .eql ∨ op = .neq ∨ op = .lss ∨ op = .leq ∨ op = .gtr ∨ op = .geq) (hb : cmpS op s t = b) (ho : o.op = .binOp op T x y T')
    (hx : OpdOk N x (fV Rep.str s)) (hy : OpdOk N y (fV Rep.str t)) : OpOk P o N [] (fV Rep.bool b) [] :=
  OpOk.ofRun fun h a w _ q => by
    subst hb
    refine ⟨.bool (cmpS op s t), ?_, val_bool.2 rfl⟩
    rcases hop with rfl | rfl | rfl | rfl | rfl | rfl <;>
      simp [execOp, ho, val_str.1 (hx h a q), val_str.1 (hy h a q), binOp, Op.stringOp, eqGuard, cmpS]
def catS (a b : Str) : Option Str := bif Nat.ble (a.length + b.length) lim then some (a ++ b) else none
theorem ok_catS {T T' : TypeId} {x y : Operand} {s t u : Str} (hq : catS s t = some u) (ho : o.op = .binOp .add T x y T') (hx : OpdOk N x (fV Rep.str s)) (hy : OpdOk N y (fV Rep.str t)) : OpOk P o N [] (fV Rep.str u) [] :=
  OpOk.ofRun fun h a w _ q => by
    unfold catS at hq
    cases hb : Nat.ble (s.length + t.length) lim with
    | false => rw [hb] at hq; cases hq
    | true =>
      rw [hb] at hq; cases hq
      have hl := Nat.le_of_ble_eq_true hb
      refine ⟨.string ⟨(s ++ t).toArray⟩, ?_, val_str.2 rfl⟩
      have hle : ¬ (((ByteArray.size ⟨s.toArray⟩ + ByteArray.size ⟨t.toArray⟩ : Nat) : Int) > IntKind.i64.max) := by
        rw [size_mk, size_mk]
        have : IntKind.i64.max = 9223372036854775807 := rfl
        unfold lim at hl; omega
      have he : (⟨s.toArray⟩ : ByteArray) ++ ⟨t.toArray⟩ = ⟨(s ++ t).toArray⟩ := by
        apply ByteArray.ext
        rw [ByteArray.data_append]
        simp
      simp only [execOp, ho, val_str.1 (hx h a q), val_str.1 (hy h a q), binOp, Op.stringOp, eqGuard_add, Sem.run_bind, Sem.run_pure, Result.andThen_ok]
      rw [if_neg hle, he]
      rfl

theorem ok_eqB {T T' : TypeId} {x y : Operand} {b c : Bool} (hT : P.underlying T = some .bool) (ho : o.op = .binOp .eql T x y T') (hx : OpdOk N x (fV Rep.bool b)) (hy : OpdOk N y (fV Rep.bool c)) : OpOk P o N [] (fV Rep.bool (b == c)) [] :=
  OpOk.ofRun fun h a w _ q => ⟨.bool (b == c), by simp only [execOp, ho, val_bool.1 (hx h a q), val_bool.1 (hy h a q), eqGuard_at_bool, Sem.run_bind, Sem.run_pure, Result.andThen_ok, run_eql_bool w T b c hT], val_bool.2 rfl⟩
theorem ok_neB {T T' : TypeId} {x y : Operand} {b c : Bool} (hT : P.underlying T = some .bool) (ho : o.op = .binOp .neq T x y T') (hx : OpdOk N x (fV Rep.bool b)) (hy : OpdOk N y (fV Rep.bool c)) : OpOk P o N [] (fV Rep.bool (!(b == c))) [] :=
  OpOk.ofRun fun h a w _ q => ⟨.bool (!(b == c)), by simp only [execOp, ho, val_bool.1 (hx h a q), val_bool.1 (hy h a q), eqGuard_at_bool, Sem.run_bind, Sem.run_pure, Result.andThen_ok, run_neq_bool w T b c hT], val_bool.2 rfl⟩

/- cut of a text -/
theorem ok_sliceS {T : TypeId} {x : Operand} {lo hi : Option Operand} {s t : Str} {l m : Int} (hq : slc s l m = some t) (hT : P.underlying T = some .string) (ho : o.op = .slice T x lo hi none) (hx : OpdOk N x (fV Rep.str s)) (hl : BndOk N 0 lo l) (hm : BndOk N s.length hi m) : OpOk P o N [] (fV Rep.str t) [] :=
  OpOk.ofRun fun h a w _ n => by
    obtain ⟨h0, h1, h2, rfl⟩ := slc_spec hq
    have he : ByteArray.extract ⟨s.toArray⟩ l.toNat m.toNat = ⟨(List.drop l.toNat (List.take m.toNat s)).toArray⟩ := by
      apply ByteArray.ext
      rw [ByteArray.data_extract]
      apply Array.ext'
      rw [Array.toList_extract, List.drop_take]
    refine ⟨.string ⟨(List.drop l.toNat (List.take m.toNat s)).toArray⟩, ?_, val_str.2 rfl⟩
    rw [← he]
    have hmc : 0 ≤ m ∧ m ≤ ((ByteArray.size ⟨s.toArray⟩ : Nat) : Int) := ⟨by omega, by rw [size_mk]; exact h2⟩
    have hlm : 0 ≤ l ∧ l ≤ ((m.toNat : Nat) : Int) := by omega
    have hll : 0 ≤ l ∧ l ≤ ((ByteArray.size ⟨s.toArray⟩ : Nat) : Int) := ⟨h0, by rw [size_mk]; omega⟩
    have hv := val_str.1 (hx h a n)
    have key : (Instr.sliceAt T (.string ⟨s.toArray⟩) (lo.map a.eval) (hi.map a.eval) none).run P w = .ok (.string (ByteArray.extract ⟨s.toArray⟩ l.toNat m.toNat)) w := by
      cases lo with
      | none =>
        have hl : l = 0 := hl
        subst hl
        cases hi with
        | none =>
          have hm : m = s.length := hm
          subst hm
          simp [Instr.sliceAt, Instr.slice, run_underlying hT, Instr.sliceBounds]
          simp at he
          exact he.symm
        | some y =>
          obtain ⟨k, hy⟩ := hm
          simp [Instr.sliceAt, Instr.slice, run_underlying hT, Instr.sliceBounds, Instr.sliceBound, asIntOf, val_int.1 (hy h a n), hmc]
      | some x =>
        obtain ⟨k', hx⟩ := hl
        cases hi with
        | none =>
          have hm : m = s.length := hm
          subst hm
          simp [Instr.sliceAt, Instr.slice, run_underlying hT, Instr.sliceBounds, Instr.sliceBound, asIntOf, val_int.1 (hx h a n), hll, size_mk]
          omega
        | some y =>
          obtain ⟨k, hy⟩ := hm
          simp [Instr.sliceAt, Instr.slice, run_underlying hT, Instr.sliceBounds, Instr.sliceBound, asIntOf, val_int.1 (hy h a n), val_int.1 (hx h a n), hmc, hlm]
          omega
    simp only [execOp, ho, hv, Option.map_none, Sem.run_bind]
    rw [key]; rfl
end Go.KB
