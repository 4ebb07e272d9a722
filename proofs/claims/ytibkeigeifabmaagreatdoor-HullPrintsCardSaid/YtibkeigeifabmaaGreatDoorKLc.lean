/- Functions of Go's library on words and numbers, by the kit's contracts; error values. For a seat whose row lists variables. No condition. -/
import Derived.Laws.BytesArg
import Derived.Test.YtibkeigeifabmaaGreatDoorKLib
import Derived.WideLaws
import Derived.Lib.ItoaNum
import Derived.Lib.AtoiAll
import Derived.Lib.Join
import Derived.Lib.Split
import Derived.Lib.SplitLaws
import Derived.Sort.Grow
namespace Go.KB
open RowKit Go.Proofs
variable {P : Program} {α β : Type}
/- an error value: there is one, or nil -/
def Rep.err : Rep Bool where
  sz := 1
  agg := false
  rel := fun _ cs x => ∃ v, cs = [v] ∧ ((x = false ∧ v = .nilIface) ∨ (x = true ∧ ∃ t p, v = .iface t p))
  zero := false
  zc := [.nilIface]
  one := fun _ => rfl
  len := fun ⟨v, e, _⟩ => by rw [e]; rfl
  flat := fun ⟨v, e, k⟩ c hc => by
    rw [e] at hc; simp at hc; rw [hc]
    rcases k with ⟨_, rfl⟩ | ⟨_, t, p, rfl⟩ <;> rfl
  mono := fun _ e => e
  zrel := fun _ => ⟨_, rfl, .inl ⟨rfl, rfl⟩⟩
theorem jT4 {h : H} : Rep.err.val h .nilIface false := ⟨[.nilIface], ⟨_, rfl, .inl ⟨rfl, rfl⟩⟩, rfl⟩
theorem qXg {h : H} {t : TypeId} {p : Value} : Rep.err.val h (.iface t p) true := ⟨[.iface t p], ⟨_, rfl, .inr ⟨rfl, t, p, rfl⟩⟩, rfl⟩
theorem St.belowG {κ : Type} {B : Base} {h : H} {L : κ → Option Ent} {w w' : World} (s : St B h L w) (hb : RowKit.Below w.heap.size w w') : St B h L w' := s.below hb (fun e => e.elim)
section
variable {o : Oper} {N : List (Nat × jJm)}
theorem opdErr0 : jQb N (.const .nilIface) (fV Rep.err false) := fun _ _ _ => jT4
theorem qYj {h : H} {v : Value} {x : Bool} : Rep.err.val h v x ↔ (x = false ∧ v = .nilIface) ∨ (x = true ∧ ∃ t p, v = .iface t p) :=
  ⟨fun ⟨_, ⟨_, e, k⟩, e'⟩ => by subst e e'; exact k, fun k => ⟨[v], ⟨_, rfl, k⟩, rfl⟩⟩
theorem qKg {T T' : TypeId} {x : Operand} {q : Bool} (hT : P.underlying T = some (.interface (P.methodsAt T))) (ho : o.op = .binOp .eql T x (.const .nilIface) T') (hx : jQb N x (fV Rep.err q)) : jXf P o N [] (fV Rep.bool (!q)) [] :=
  jXf.ofRun fun h a w _ n => by
    have hg : (eqGuard .eql T x (.const .nilIface) .nilIface .nilIface).run P w = .ok () w := by
      unfold eqGuard; cases x <;> rfl
    have hg2 : ∀ t p, (eqGuard .eql T x (.const .nilIface) (.iface t p) .nilIface).run P w = .ok () w := by
      intro t p; unfold eqGuard; rfl
    rcases qYj.1 (hx h a n) with ⟨rfl, hv⟩ | ⟨rfl, t, p, hv⟩
    · exact ⟨.bool true, by simp only [execOp, ho, hv, show a.eval (.const .nilIface) = .nilIface from rfl, hg, Sem.run_bind, Result.andThen_ok, Sem.run_pure, run_eql_nil_nil w T hT], jZx.2 rfl⟩
    · exact ⟨.bool false, by simp only [execOp, ho, hv, show a.eval (.const .nilIface) = .nilIface from rfl, hg2, Sem.run_bind, Result.andThen_ok, Sem.run_pure, run_eql_held_nil w T t p hT], jZx.2 rfl⟩
theorem ok_neErr {T T' : TypeId} {x : Operand} {q : Bool} (hT : P.underlying T = some (.interface (P.methodsAt T))) (ho : o.op = .binOp .neq T x (.const .nilIface) T') (hx : jQb N x (fV Rep.err q)) : jXf P o N [] (fV Rep.bool q) [] :=
  jXf.ofRun fun h a w _ n => by
    have hg : (eqGuard .neq T x (.const .nilIface) .nilIface .nilIface).run P w = .ok () w := by
      unfold eqGuard; cases x <;> rfl
    have hg2 : ∀ t p, (eqGuard .neq T x (.const .nilIface) (.iface t p) .nilIface).run P w = .ok () w := by
      intro t p; unfold eqGuard; rfl
    rcases qYj.1 (hx h a n) with ⟨rfl, hv⟩ | ⟨rfl, t, p, hv⟩
    · exact ⟨.bool false, by simp only [execOp, ho, hv, show a.eval (.const .nilIface) = .nilIface from rfl, hg, Sem.run_bind, Result.andThen_ok, Sem.run_pure, run_neq_nil_nil w T hT], jZx.2 rfl⟩
    · exact ⟨.bool true, by simp only [execOp, ho, hv, show a.eval (.const .nilIface) = .nilIface from rfl, hg2, Sem.run_bind, Result.andThen_ok, Sem.run_pure, run_neq_held_nil w T t p hT], jZx.2 rfl⟩
end
def inI (n : Int) : Bool := decide (-9223372036854775808 ≤ n) && decide (n ≤ 9223372036854775807)
theorem qXd {n : Int} (h : inI n = true) : -9223372036854775808 ≤ n ∧ n ≤ 9223372036854775807 := by simpa [inI] using h
def qZy (n : Int) : Option Str := bif inI n then some (Lib.itoa n) else none
theorem qKu {f : FuncId} {n : Int} {r : Str} (H : qZy n = some r)
    (hc : ∀ w, GF w → -9223372036854775808 ≤ n → n ≤ 9223372036854775807 → Calls P f #[.int .i64 n] w fun e w' => e = .returned (.string ⟨(Lib.itoa n).toArray⟩) ∧ ∃ k os, w' = Sort.grow (w.drewN k) os) : FnOk P f [fV (Rep.int .i64) n] (fV Rep.str r) := by
  unfold qZy at H
  cases hi : inI n with
  | false => rw [hi] at H; cases H
  | true =>
    rw [hi] at H; cases H
    intro κ B L h w vs hst hl hargs
    obtain ⟨a, rfl⟩ : ∃ a, vs = [a] := by
      match vs, hl with
      | [a], _ => exact ⟨a, rfl⟩
    have ha := jQ3.1 (hargs 0 _ a rfl rfl)
    subst ha
    refine (hc w (qWa hst.gok.2) (qXd hi).1 (qXd hi).2).mono ?_
    rintro e w' ⟨rfl, k, os, rfl⟩
    exact ⟨_, h, rfl, Hle.refl h, hst.belowG ⟨rfl, rfl, rfl, by simp [Sort.grow, World.drewN], fun j hj => by simp only [Sort.grow, World.drewN]; exact Array.getElem?_append_left hj⟩, jVl.2 rfl⟩
/- a number and whether there is an error -/
def qKk (s : Str) : Option (Int × Bool) := bif Nat.ble s.length 281474976710656 then some (match Lib.atoiAll s with | Lib.NumEnd.ok v => (v, false) | Lib.NumEnd.range => (Lib.atoiSat s, true) | _ => (0, true)) else none
theorem qUk {f : FuncId} {s : Str} {r : Int × Bool} (H : qKk s = some r)
    (h1 : ∀ w v, s.length ≤ 9223372036854775806 → Lib.atoiAll s = .ok v → Calls P f #[.string ⟨s.toArray⟩] w fun e w' => e = .returned (.tuple #[.int .i64 v, .nilIface]) ∧ Below w.heap.size w w')
    (h2 : ∀ w, GF w → s.length ≤ 281474976710656 → Lib.atoiAll s = Lib.NumEnd.syntax → Calls P f #[.string ⟨s.toArray⟩] w fun e w' => (∃ t p, e = .returned (.tuple #[.int .i64 0, .iface t p])) ∧ Below w.heap.size w w')
    (h3 : ∀ w, GF w → s.length ≤ 281474976710656 → Lib.atoiAll s = .range → Calls P f #[.string ⟨s.toArray⟩] w fun e w' => (∃ t p, e = .returned (.tuple #[.int .i64 (Lib.atoiSat s), .iface t p])) ∧ Below w.heap.size w w') :
    FnOk P f [fV Rep.str s] (fT2 (fV (Rep.int .i64) r.1) (fV Rep.err r.2)) := by
  unfold qKk at H
  cases hi : Nat.ble s.length 281474976710656 with
  | false => rw [hi] at H; cases H
  | true =>
    rw [hi] at H; cases H
    rw [Nat.ble_eq] at hi
    intro κ B L h w vs hst hl hargs
    obtain ⟨a, rfl⟩ : ∃ a, vs = [a] := by
      match vs, hl with
      | [a], _ => exact ⟨a, rfl⟩
    have ha := jVl.1 (hargs 0 _ a rfl rfl)
    subst ha
    match hA : Lib.atoiAll s with
    | Lib.NumEnd.ok v =>
      refine (h1 w v (by omega) hA).mono ?_
      rintro e w' ⟨rfl, hb⟩
      exact ⟨_, h, rfl, Hle.refl h, hst.belowG hb, _, _, rfl, jQ3.2 rfl, jT4⟩
    | Lib.NumEnd.syntax =>
      refine (h2 w (qWa hst.gok.2) hi hA).mono ?_
      rintro e w' ⟨⟨t, p, rfl⟩, hb⟩
      exact ⟨_, h, rfl, Hle.refl h, hst.belowG hb, _, _, rfl, jQ3.2 rfl, qXg⟩
    | Lib.NumEnd.range =>
      refine (h3 w (qWa hst.gok.2) hi hA).mono ?_
      rintro e w' ⟨⟨t, p, rfl⟩, hb⟩
      exact ⟨_, h, rfl, Hle.refl h, hst.belowG hb, _, _, rfl, jQ3.2 rfl, qXg⟩
def bA (s : Str) : ByteArray := ⟨s.toArray⟩
theorem qWy (xs : List Str) : (xs.map bA).map (·.data.toList) = xs := by
  rw [List.map_map]
  conv => rhs; rw [← List.map_id xs]
  exact List.map_congr_left fun x _ => by simp [bA]
def qUq (xs : List Str) (sep : Str) : Option Str := bif Nat.ble (Lib.join xs sep).length 140737488355328 && Nat.ble xs.length 140737488355328 then some (Lib.join xs sep) else none
theorem qKl {f : FuncId} {xs : List Str} {sep r : Str} (H : qUq xs sep = some r)
    (h0 : ∀ w a c, Calls P f #[.slice a 0 c, .string ⟨sep.toArray⟩] w fun e w' => e = .returned (.string ⟨#[]⟩) ∧ w' = w)
    (h1 : ∀ (bk o c : Nat) (ys : List ByteArray) (w : World), (∀ (j : Nat) x, ys[j]? = some x → w.cell? ⟨bk, o + j, none⟩ = some (.string x)) → bk < w.heap.size → ys.length ≤ 140737488355328 → ys.length ≤ c →
      (Lib.join (ys.map (·.data.toList)) sep).length ≤ 140737488355328 → Calls P f #[.slice (some ⟨bk, o, none⟩) ys.length c, .string ⟨sep.toArray⟩] w fun e w' => e = .returned (.string ⟨(Lib.join (ys.map (·.data.toList)) sep).toArray⟩) ∧ Below w.heap.size w w') :
    FnOk P f [fV (Rep.slice Rep.str) xs, fV Rep.str sep] (fV Rep.str r) := by
  unfold qUq at H
  cases hi : Nat.ble (Lib.join xs sep).length 140737488355328 && Nat.ble xs.length 140737488355328 with
  | false => rw [hi] at H; cases H
  | true =>
    rw [hi] at H; cases H
    simp only [Bool.and_eq_true, Nat.ble_eq] at hi
    intro κ B L h w vs hst hl hargs
    obtain ⟨a, b, rfl⟩ : ∃ a b, vs = [a, b] := by
      match vs, hl with
      | [a, b], _ => exact ⟨a, b, rfl⟩
    have hb := jVl.1 (hargs 1 _ b rfl rfl)
    subst hb
    obtain ⟨cs, ⟨v, rfl, k⟩, rfl⟩ := hargs 0 _ a rfl rfl
    have nil : ∀ a c, xs = [] → Calls P f #[.slice a 0 c, .string ⟨sep.toArray⟩] w (fun e w' => ∃ v h', e = .returned v ∧ Hle h h' ∧ St B h' L w' ∧ (fV Rep.str (Lib.join xs sep)).p h' undef v) := by
      rintro a c rfl
      refine (h0 w a c).mono ?_
      rintro e w' ⟨rfl, rfl⟩
      exact ⟨_, h, rfl, Hle.refl h, hst, jVl.2 rfl⟩
    rcases k with ⟨⟨base, rfl⟩, e⟩ | ⟨bk, o, c, rfl, hc, hx, _⟩
    · exact nil base 0 e
    · by_cases e : xs = []
      · subst e; exact nil _ c rfl
      · have hcell : ∀ (j : Nat) x, (xs.map bA)[j]? = some x → w.cell? ⟨bk, o + j, none⟩ = some (.string x) := by
          intro j x hj
          rw [List.getElem?_map] at hj
          cases hxj : xs[j]? with
          | none => rw [hxj] at hj; cases hj
          | some y =>
            rw [hxj] at hj; cases hj
            obtain ⟨cs, hcs, hg⟩ := hx j y hxj
            rw [show cs = [.string ⟨y.toArray⟩] from hcs] at hg
            have := hst.ext (hg 0 _ rfl)
            rw [show Rep.str.sz = 1 from rfl] at this
            simpa [bA] using this
        have hlt : bk < w.heap.size := by
          obtain ⟨y, r, rfl⟩ := List.exists_cons_of_ne_nil e
          exact World.block_lt_of_cell? w _ (hcell 0 _ rfl)
        have := h1 bk o c (xs.map bA) w hcell hlt (by rw [List.length_map]; exact hi.2) (by rw [List.length_map]; exact hc) (by rw [qWy]; exact hi.1)
        rw [List.length_map, qWy] at this
        refine this.mono ?_
        rintro e w' ⟨rfl, hb⟩
        exact ⟨_, h, rfl, Hle.refl h, hst.belowG hb, jVl.2 rfl⟩
def jSt (s sep : Str) : List Str := (Lib.splitB (bA sep) 0 (Lib.countB (bA s) (bA sep)) (bA s)).map (·.data.toList)
def qXt (s sep : Str) : Option (List Str) := bif Nat.blt s.length 4294967281 && Nat.ble 1 sep.length then some (jSt s sep) else none
theorem qW0 {f : FuncId} {s sep : Str} {r : List Str} {t : TypeId} (H : qXt s sep = some r)
    (hc : ∀ w, GF w → (bA s).size < 4294967281 → 1 ≤ (bA sep).size → Calls P f #[.string (bA s), .string (bA sep)] w fun e w' =>
      e = .returned (.slice (some ⟨w.heap.size, 0, none⟩) (Lib.countB (bA s) (bA sep) + 1) (Lib.countB (bA s) (bA sep) + 1)) ∧ w' = w.alloc (.cells ((Lib.splitB (bA sep) 0 (Lib.countB (bA s) (bA sep)) (bA s)).map Value.string).toArray t)) :
    FnOk P f [fV Rep.str s, fV Rep.str sep] (fV (Rep.slice Rep.str) r) := by
  unfold qXt at H
  cases hi : Nat.blt s.length 4294967281 && Nat.ble 1 sep.length with
  | false => rw [hi] at H; cases H
  | true =>
    rw [hi] at H; cases H
    simp only [Bool.and_eq_true, Nat.ble_eq, Nat.blt_eq] at hi
    intro κ B L h w vs hst hl hargs
    obtain ⟨a, b, rfl⟩ : ∃ a b, vs = [a, b] := by
      match vs, hl with
      | [a, b], _ => exact ⟨a, b, rfl⟩
    have ha := jVl.1 (hargs 0 _ a rfl rfl)
    have hb := jVl.1 (hargs 1 _ b rfl rfl)
    subst ha hb
    have h1 : 1 ≤ (bA sep).size := by simpa [bA, ByteArray.size] using hi.2
    refine (hc w (qWa hst.gok.2) (by simpa [bA, ByteArray.size] using hi.1) h1).mono ?_
    rintro e w' ⟨rfl, rfl⟩
    have hlen := Lib.splitB_all (bA sep) h1 0 _ (bA s) rfl
    have hall := hst.allocP ((Lib.splitB (bA sep) 0 (Lib.countB (bA s) (bA sep)) (bA s)).map Value.string) t
    have hl2 : (jSt s sep).length = Lib.countB (bA s) (bA sep) + 1 := by unfold jSt; rw [List.length_map, hlen]
    suffices key : jFg Rep.str (hadd h w.heap.size ((Lib.splitB (bA sep) 0 (Lib.countB (bA s) (bA sep)) (bA s)).map Value.string)) (.slice (some ⟨w.heap.size, 0, none⟩) (Lib.countB (bA s) (bA sep) + 1) (Lib.countB (bA s) (bA sep) + 1)) (jSt s sep) from
      ⟨_, _, rfl, hall.1, hall.2, [.slice (some ⟨w.heap.size, 0, none⟩) (Lib.countB (bA s) (bA sep) + 1) (Lib.countB (bA s) (bA sep) + 1)], ⟨_, rfl, key⟩, rfl⟩
    refine .inr ⟨w.heap.size, 0, Lib.countB (bA s) (bA sep) + 1, by rw [hl2], Nat.le_of_eq hl2, ?_, fun e => absurd e (by decide)⟩
    intro i x hx
    unfold jSt at hx
    rw [List.getElem?_map] at hx
    cases hy : (Lib.splitB (bA sep) 0 (Lib.countB (bA s) (bA sep)) (bA s))[i]? with
    | none => rw [hy] at hx; cases hx
    | some y =>
      rw [hy] at hx; cases hx
      refine ⟨[.string y], by show _ = _; simp, fun j v hj => ?_⟩
      cases j with
      | zero =>
        cases hj
        rw [show Rep.str.sz = 1 from rfl, Nat.zero_add, Nat.mul_one, Nat.add_zero]
        have hi : i < ((Lib.splitB (bA sep) 0 (Lib.countB (bA s) (bA sep)) (bA s)).map Value.string).length := by rw [List.length_map]; exact (List.getElem?_eq_some_iff.1 hy).1
        rw [jHw hi, ← List.getElem?_eq_getElem hi, List.getElem?_map, hy]; rfl
      | succ j => cases hj
def qQ5 (s sep : Str) : Option Int := bif Nat.blt s.length 4294967281 then some (Lib.index s sep) else none
theorem qYb {f : FuncId} {s sep : Str} {r : Int} (H : qQ5 s sep = some r)
    (hc : ∀ w, GF w → (bA s).size < 4294967281 → Calls P f #[.string (bA s), .string (bA sep)] w fun e w' => e = .returned (.int .i64 (Lib.index s sep)) ∧ w' = w) :
    FnOk P f [fV Rep.str s, fV Rep.str sep] (fV (Rep.int .i64) r) := by
  unfold qQ5 at H
  cases hi : Nat.blt s.length 4294967281 with
  | false => rw [hi] at H; cases H
  | true =>
    rw [hi] at H; cases H
    rw [Nat.blt_eq] at hi
    intro κ B L h w vs hst hl hargs
    obtain ⟨a, b, rfl⟩ : ∃ a b, vs = [a, b] := by
      match vs, hl with
      | [a, b], _ => exact ⟨a, b, rfl⟩
    have ha := jVl.1 (hargs 0 _ a rfl rfl)
    have hb := jVl.1 (hargs 1 _ b rfl rfl)
    subst ha hb
    refine (hc w (qWa hst.gok.2) (by simpa [bA, ByteArray.size] using hi)).mono ?_
    rintro e w' ⟨rfl, rfl⟩
    exact ⟨_, h, rfl, Hle.refl h, hst, jQ3.2 rfl⟩
/- a strings.Builder's text: written to, read -/
def strI (l : List Int) : Str := l.map fun n => UInt8.ofNat n.toNat
theorem qX7 {P : Program} {o : Oper} {N : List (Nat × jJm)} {S T E : TypeId} {x : Operand} {l : List Int} (hS : P.underlying S = some (.slice E)) (hT : P.underlying T = some .string) (hE : P.underlying E = some (.int .u8)) (ho : o.op = .convert S T x) (hx : jQb N x (fV (Rep.slice (Rep.int .u8)) l)) :
    jXf P o N [] (fV Rep.str (strI l)) [] :=
  jXf.ofRun fun h a w hst q => by
    refine ⟨.string ⟨(strI l).toArray⟩, ?_, jVl.2 rfl⟩
    simp only [execOp, ho, Sem.run_bind]
    rcases jZs.1 (hx h a q) with ⟨⟨base, hv⟩, rfl⟩ | ⟨b, off, cap, hv, hcap, hc⟩
    · rw [hv]
      cases base with
      | none => rw [run_convert_bytes_nil w S E hS hE 0 0 T hT]; rfl
      | some ad => rw [run_convert_bytes_string w S T E _ _ _ hS hE hT, run_bytesToString w ad 0 0 [] (by rfl)]; rfl
    · rw [hv, run_convert_bytes_arg w S E hS hE b off l.length cap l rfl (fun i hi => by
        obtain ⟨cs, h1, h2⟩ := hc.1 i l[i] (List.getElem?_eq_getElem hi)
        cases h1
        have := h2 0 _ rfl
        have e := hst this
        simpa [Rep.int, Rep.scalar, List.getElem?_eq_getElem hi] using e) T hT]
      rfl
def qU9 (x s : Str) : Option Str := bif Nat.ble (x.length + s.length) 140737488355328 then some (x ++ s) else none
def bldS (x : Str) : Option Str := bif x.isEmpty then none else some x
end Go.KB
