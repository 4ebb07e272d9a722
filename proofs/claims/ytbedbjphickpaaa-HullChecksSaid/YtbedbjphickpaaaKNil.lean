/- Rows that grow from nothing: cap, cuts and appends of zeros at nil. No condition. -/
import Derived.Test.YtbedbjphickpaaaKTake
import Derived.Lib.AppendZeros
namespace Go.KB
variable {P : Program} {o : Oper} {N : List (Nat × Fact)} {α β : Type}

def fNilS : Fact := ⟨none, fun _ _ v => v = .slice none 0 0, fun _ x => x⟩
theorem opdN0 : OpdOk N (.const (.slice none 0 0)) fNilS := fun _ _ _ => rfl
theorem opdNS {r : Rep α} {x : Operand} (hx : OpdOk N x fNilS) : OpdOk N x (fV (Rep.slice r) []) := fun h a n => by
  rw [show a.eval x = _ from hx h a n]
  exact val_slice.2 (.inl ⟨⟨none, rfl⟩, rfl⟩)
theorem ok_capNil {T E : TypeId} {x : Operand} (hT : P.underlying T = some (.slice E)) (ho : o.op = .call { callee := .builtin .cap, args := #[x], argTypes := #[T] }) (hx : OpdOk N x fNilS) : OpOk P o N [] (fV (Rep.int .i64) 0) [] :=
  OpOk.ofRun fun h a w _ n => by
    have hv : a.eval x = .slice none 0 0 := hx h a n
    exact ⟨.int .i64 0, by simp [execOp, ho, resolve, invoke, builtin, Builtin.cap_, hv, run_underlying hT, goInt], val_int.2 rfl⟩
theorem ok_sliceNil {T E : TypeId} {k : IntKind} {x y : Operand} {r : Rep α} (t : TyOk P E r) (hT : P.underlying T = some (.slice E)) (ho : o.op = .slice T x none (some y) none) (hx : OpdOk N x fNilS) (hy : OpdOk N y (fV (Rep.int k) 0)) : OpOk P o N [] fNilS [] :=
  OpOk.ofRun fun h a w _ n => by
    have hv : a.eval x = .slice none 0 0 := hx h a n
    have hv' := val_int.1 (hy h a n)
    exact ⟨.slice none 0 0, by simp [execOp, ho, hv, hv', Instr.sliceAt, Instr.slice, run_underlying hT, Instr.sliceBounds, Instr.sliceBound, asIntOf, t.size], rfl⟩
theorem zeroCells_succ (z : Array Value) (n : Nat) : (Builtin.zeroCells z (n + 1)).toList = z.toList ++ (Builtin.zeroCells z n).toList := by
  unfold Builtin.zeroCells
  simp only [Array.toList_map, Array.toList_range]
  rw [show (n + 1) * z.size = z.size + n * z.size by rw [Nat.add_mul]; omega, List.range_add, List.map_append, List.map_map]
  congr 1
  · refine List.ext_getElem (by simp) fun i h1 h2 => ?_
    have hi : i < z.size := by simpa using h2
    simp [Nat.mod_eq_of_lt hi, hi]
  · refine List.map_congr_left fun i _ => ?_
    simp
theorem zeroCells_flat (z : List Value) : ∀ n, (Builtin.zeroCells z.toArray n).toList = (List.replicate n z).flatten
  | 0 => by simp [Builtin.zeroCells]
  | n + 1 => by rw [zeroCells_succ, zeroCells_flat z n, List.replicate_succ, List.flatten_cons]
def mkp (z : α) (n : Int) : Option (List α) := bif decide (0 < n) && decide (n ≤ lim) then some (List.replicate n.toNat z) else none
theorem ok_appendZ {T T' E : TypeId} {r : Rep α} {k k' : IntKind} {n : Int} {d : Nat} {x y : Operand} {zs : List α} (hz : mkp r.zero n = some zs) (el : ElOk P E r) (hpos : 0 < r.sz) (hT : P.underlying T = some (.slice E)) (hT' : P.underlying T' = some (.int k')) (hd : o.dst = some d)
    (ho : o.op = .call { callee := .builtin .append, args := #[x, y], argTypes := #[T, T'] }) (hx : OpdOk N x fNilS) (hy : OpdOk N y (fV (Rep.int k) n)) : OpOk P o N [] Fact.triv [(d, some (arrE E r zs))] := by
  unfold mkp at hz
  cases hb : (decide (0 < n) && decide (n ≤ lim)) with
  | false => rw [hb] at hz; cases hz
  | true =>
    rw [hb] at hz; cases hz
    simp only [Bool.and_eq_true, decide_eq_true_eq] at hb
    obtain ⟨m, rfl⟩ : ∃ m : Nat, n = m := ⟨n.toNat, by omega⟩
    obtain ⟨i, hi, hsz, hby, hzero⟩ := el.out
    have hl : (lim : Int) = 274877906944 := rfl
    have hm : m ≤ 274877906944 := by omega
    have hbytes := Nat.mul_le_mul hm hby
    intro κ B F L h a w hst hn _ hdn next Q hnext
    have hv : a.eval x = .slice none 0 0 := hx h a hn
    have hv' := val_int.1 (hy h a hn)
    have hr := Lib.run_append_nil_zeros (P := P) w T T' o.type E i _ k k' hT hT' hi hzero m (by omega) (by omega) (by omega) (by omega)
    have hzc := cells_pack (r.zrel h)
    rw [hzc] at hr
    unfold Oper.wp
    have : (execOp a.eval o).run P w = .ok (.value (.slice (some ⟨w.heap.size, 0, none⟩) m (grownCap w m 0 E))) (w.drew.alloc (.cells (Builtin.zeroCells r.zc.toArray m ++ Builtin.zeroCells r.zc.toArray (grownCap w m 0 E - m)) E)) := by
      simp only [execOp, ho, resolve, invoke, builtin, Sem.run_bind, Sem.run_pure, Result.andThen_ok, List.map_toArray, List.map_cons, List.map_nil, hv, hv', hr]
    rw [this]
    have hge := grownCap_ge w m 0 E
    refine hnext _ h _ (set1 L d (arrEnt w.heap.size E r (List.replicate m r.zero) (grownCap w m 0 E))) (Hle.refl h) trivial ((hst.drawn (w.drawn + 1)).own_new _ d _ (by simp [arrEnt]) ?_) ?_
    · refine ⟨(List.replicate m r.zc).flatten, (List.replicate (grownCap w m 0 E - m) r.zc).flatten, ?_, RelL.zeros r h _, ?_⟩
      · rw [mem_new]
        congr 2
        apply Array.ext'
        simp only [Array.toList_append, zeroCells_flat]
      · rw [← rep_split r _ _ hge, rep_len]
    · rw [hd, Int.toNat_natCast]
      exact upd_set1 (.inr ⟨_, grownCap w m 0 E, by rw [gt_put_same (hdn d hd), List.length_replicate], by rw [List.length_replicate]; exact hge, rfl⟩)
theorem ok_nilArrNS {E : TypeId} {r : Rep α} {d : Nat} {x : Operand} (hd : o.dst = some d) (ho : o.op = .assign x ∨ o.op = .move x) (hx : OpdOk N x fNilS) : OpOk P o N [] Fact.triv [(d, some (arrE E r []))] := by
  intro κ B F L h a w hst hn _ hdn next Q hnext
  have hv : a.eval x = .slice none 0 0 := hx h a hn
  unfold Oper.wp
  have : (execOp a.eval o).run P w = .ok (.value (.slice none 0 0)) w := by rcases ho with ho | ho <;> simp [execOp, ho, hv]
  rw [this]
  have hst' : St B h (Sum.elim (set1 L d nilEnt) F) w := by
    refine hst.step (Sum.inl d) (fun _ => False) (fun b hb => hb.elim) (Nat.le_refl _) rfl rfl rfl (fun _ _ _ => rfl) (Hle.refl h) (fun _ _ _ _ => rfl) ?_ set1_ne ?_
    · rintro b o' v (hb | hb) hv
      · exact hb.elim
      · rw [hst.fresh hb] at hv; cases hv
    · intro e' he; rw [set1_eq he]; exact ⟨fun c hc => (by cases hc), trivial⟩
  refine hnext _ h w _ (Hle.refl h) trivial hst' ?_
  rw [hd]
  exact upd_set1 (.inl ⟨gt_put_same (hdn d hd), rfl, rfl⟩)
end Go.KB
