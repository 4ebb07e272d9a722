/- Functions of Go's library on words and numbers, by the kit's contracts; error values. For a seat whose row lists variables. An iterator that holds its own text: what strings.SplitAfterSeq hands back. A strings.Builder as an entry: its own block and its row of bytes, and nothing else. No condition. -/
import Derived.Laws.BytesArg
import Derived.Test.YtipapjkpbnjkmaaGreatDoorKLib
import Derived.WideLaws
import Derived.Lib.ItoaNum
import Derived.Lib.AtoiAll
import Derived.Lib.Join
import Derived.Lib.Split
import Derived.Lib.SplitLaws
import Derived.Sort.Grow
import Derived.Shelf.Strings.BuilderK
namespace Go.KB
open RowKit Go.Proofs
variable {P : Program} {α β : Type}
def Rep.err : Rep Bool where
 sz := 1
 agg := false
 rel := fun _ cs x => ∃ v, cs = [v] ∧ ((x = false ∧ v = .nilIface) ∨ (x = true ∧ ∃ t p, v = .iface t p))
 zero := false
 zc := [.nilIface]
 one := fun _ => rfl
 len := fun ⟨v, e, _⟩ => by rw [e]; rfl
 flat := fun ⟨v, e, k⟩ c hc => by
  rw [e] at hc; simp at hc; rw [hc]
  rcases k with ⟨_, rfl⟩ | ⟨_, t, p, rfl⟩ <;> rfl
 mono := fun _ e => e
 zrel := fun _ => ⟨_, rfl, .inl ⟨rfl, rfl⟩⟩
theorem qJl {h : H} : Rep.err.val h .nilIface false := ⟨[.nilIface], ⟨_, rfl, .inl ⟨rfl, rfl⟩⟩, rfl⟩
theorem jAm {h : H} {t : TypeId} {p : Value} : Rep.err.val h (.iface t p) true := ⟨[.iface t p], ⟨_, rfl, .inr ⟨rfl, t, p, rfl⟩⟩, rfl⟩
theorem St.belowG {κ : Type} {B : Base} {h : H} {L : κ → Option Ent} {w w' : World} (s : St B h L w) (hb : RowKit.Below w.heap.size w w') : St B h L w' := s.below hb (fun e => e.elim)
section
variable {o : Oper} {N : List (Nat × jJa)}
theorem qZq {h : H} {v : Value} {x : Bool} : Rep.err.val h v x ↔ (x = false ∧ v = .nilIface) ∨ (x = true ∧ ∃ t p, v = .iface t p) :=
 ⟨fun ⟨_, ⟨_, e, k⟩, e'⟩ => by subst e e'; exact k, fun k => ⟨[v], ⟨_, rfl, k⟩, rfl⟩⟩
theorem qV7 {T T' : TypeId} {x : Operand} {q : Bool} (hT : P.underlying T = some (.interface (P.methodsAt T))) (ho : o.op = .binOp .eql T x (.const .nilIface) T') (hx : jJ9 N x (fV Rep.err q)) : jXg P o N [] (fV Rep.bool (!q)) [] :=
 jXg.ofRun fun h a w _ n => by
  have hg : (eqGuard .eql T x (.const .nilIface) .nilIface .nilIface).run P w = .ok () w := by
   unfold eqGuard; cases x <;> rfl
  have hg2 : ∀ t p, (eqGuard .eql T x (.const .nilIface) (.iface t p) .nilIface).run P w = .ok () w := by
   intro t p; unfold eqGuard; rfl
  rcases qZq.1 (hx h a n) with ⟨rfl, hv⟩ | ⟨rfl, t, p, hv⟩
  ·exact ⟨.bool true, by simp only [execOp, ho, hv, show a.eval (.const .nilIface) = .nilIface from rfl, hg, Sem.run_bind, Result.andThen_ok, Sem.run_pure, run_eql_nil_nil w T hT], jX2.2 rfl⟩
  ·exact ⟨.bool false, by simp only [execOp, ho, hv, show a.eval (.const .nilIface) = .nilIface from rfl, hg2, Sem.run_bind, Result.andThen_ok, Sem.run_pure, run_eql_held_nil w T t p hT], jX2.2 rfl⟩
theorem jAh {T T' : TypeId} {x : Operand} {q : Bool} (hT : P.underlying T = some (.interface (P.methodsAt T))) (ho : o.op = .binOp .neq T x (.const .nilIface) T') (hx : jJ9 N x (fV Rep.err q)) : jXg P o N [] (fV Rep.bool q) [] :=
 jXg.ofRun fun h a w _ n => by
  have hg : (eqGuard .neq T x (.const .nilIface) .nilIface .nilIface).run P w = .ok () w := by
   unfold eqGuard; cases x <;> rfl
  have hg2 : ∀ t p, (eqGuard .neq T x (.const .nilIface) (.iface t p) .nilIface).run P w = .ok () w := by
   intro t p; unfold eqGuard; rfl
  rcases qZq.1 (hx h a n) with ⟨rfl, hv⟩ | ⟨rfl, t, p, hv⟩
  ·exact ⟨.bool false, by simp only [execOp, ho, hv, show a.eval (.const .nilIface) = .nilIface from rfl, hg, Sem.run_bind, Result.andThen_ok, Sem.run_pure, run_neq_nil_nil w T hT], jX2.2 rfl⟩
  ·exact ⟨.bool true, by simp only [execOp, ho, hv, show a.eval (.const .nilIface) = .nilIface from rfl, hg2, Sem.run_bind, Result.andThen_ok, Sem.run_pure, run_neq_held_nil w T t p hT], jX2.2 rfl⟩
end
def inI (n : Int) : Bool := decide (-9223372036854775808 ≤ n) && decide (n ≤ 9223372036854775807)
theorem qJp {n : Int} (h : inI n = true) : -9223372036854775808 ≤ n ∧ n ≤ 9223372036854775807 := by simpa [inI] using h
def qQj (n : Int) : Option Str := bif inI n then some (Lib.itoa n) else none
theorem qV2 {f : FuncId} {n : Int} {r : Str} (H : qQj n = some r)
  (hc : ∀ w, GF w → -9223372036854775808 ≤ n → n ≤ 9223372036854775807 → Calls P f #[.int .i64 n] w fun e w' => e = .returned (.string ⟨(Lib.itoa n).toArray⟩) ∧ ∃ k os, w' = Sort.grow (w.drewN k) os) : FnOk P f [fV (Rep.int .i64) n] (fV Rep.str r) := by
 unfold qQj at H
 cases hi : inI n with
 | false => rw [hi] at H; cases H
 | true =>
  rw [hi] at H; cases H
  intro κ B L h w vs hst hl hargs
  obtain ⟨a, rfl⟩ : ∃ a, vs = [a] := by
   match vs, hl with
   | [a], _ => exact ⟨a, rfl⟩
  have ha := jXk.1 (hargs 0 _ a rfl rfl)
  subst ha
  refine (hc w (qJ4 hst.gok.2) (qJp hi).1 (qJp hi).2).mono ?_
  rintro e w' ⟨rfl, k, os, rfl⟩
  exact ⟨_, h, rfl, Hle.refl h, hst.belowG ⟨rfl, rfl, rfl, by simp [Sort.grow, World.drewN], fun j hj => by simp only [Sort.grow, World.drewN]; exact Array.getElem?_append_left hj⟩, jVz.2 rfl⟩
def jCg (s : Str) : Option (Int × Bool) := bif Nat.ble s.length 281474976710656 then some (match Lib.atoiAll s with | Lib.NumEnd.ok v => (v, false) | Lib.NumEnd.range => (Lib.atoiSat s, true) | _ => (0, true)) else none
theorem qWn {f : FuncId} {s : Str} {r : Int × Bool} (H : jCg s = some r)
  (h1 : ∀ w v, s.length ≤ 9223372036854775806 → Lib.atoiAll s = .ok v → Calls P f #[.string ⟨s.toArray⟩] w fun e w' => e = .returned (.tuple #[.int .i64 v, .nilIface]) ∧ Below w.heap.size w w')
  (h2 : ∀ w, GF w → s.length ≤ 281474976710656 → Lib.atoiAll s = Lib.NumEnd.syntax → Calls P f #[.string ⟨s.toArray⟩] w fun e w' => (∃ t p, e = .returned (.tuple #[.int .i64 0, .iface t p])) ∧ Below w.heap.size w w')
  (h3 : ∀ w, GF w → s.length ≤ 281474976710656 → Lib.atoiAll s = .range → Calls P f #[.string ⟨s.toArray⟩] w fun e w' => (∃ t p, e = .returned (.tuple #[.int .i64 (Lib.atoiSat s), .iface t p])) ∧ Below w.heap.size w w') :
  FnOk P f [fV Rep.str s] (fT2 (fV (Rep.int .i64) r.1) (fV Rep.err r.2)) := by
 unfold jCg at H
 cases hi : Nat.ble s.length 281474976710656 with
 | false => rw [hi] at H; cases H
 | true =>
  rw [hi] at H; cases H
  rw [Nat.ble_eq] at hi
  intro κ B L h w vs hst hl hargs
  obtain ⟨a, rfl⟩ : ∃ a, vs = [a] := by
   match vs, hl with
   | [a], _ => exact ⟨a, rfl⟩
  have ha := jVz.1 (hargs 0 _ a rfl rfl)
  subst ha
  match hA : Lib.atoiAll s with
  | Lib.NumEnd.ok v =>
   refine (h1 w v (by omega) hA).mono ?_
   rintro e w' ⟨rfl, hb⟩
   exact ⟨_, h, rfl, Hle.refl h, hst.belowG hb, _, _, rfl, jXk.2 rfl, qJl⟩
  | Lib.NumEnd.syntax =>
   refine (h2 w (qJ4 hst.gok.2) hi hA).mono ?_
   rintro e w' ⟨⟨t, p, rfl⟩, hb⟩
   exact ⟨_, h, rfl, Hle.refl h, hst.belowG hb, _, _, rfl, jXk.2 rfl, jAm⟩
  | Lib.NumEnd.range =>
   refine (h3 w (qJ4 hst.gok.2) hi hA).mono ?_
   rintro e w' ⟨⟨t, p, rfl⟩, hb⟩
   exact ⟨_, h, rfl, Hle.refl h, hst.belowG hb, _, _, rfl, jXk.2 rfl, jAm⟩
def bA (s : Str) : ByteArray := ⟨s.toArray⟩
theorem qZz (xs : List Str) : (xs.map bA).map (·.data.toList) = xs := by
 rw [List.map_map]
 conv => rhs; rw [← List.map_id xs]
 exact List.map_congr_left fun x _ => by simp [bA]
def qJ2 (xs : List Str) (sep : Str) : Option Str := bif Nat.ble (Lib.join xs sep).length 140737488355328 && Nat.ble xs.length 140737488355328 then some (Lib.join xs sep) else none
theorem qW7 {f : FuncId} {xs : List Str} {sep r : Str} (H : qJ2 xs sep = some r)
  (h0 : ∀ w a c, Calls P f #[.slice a 0 c, .string ⟨sep.toArray⟩] w fun e w' => e = .returned (.string ⟨#[]⟩) ∧ w' = w)
  (h1 : ∀ (bk o c : Nat) (ys : List ByteArray) (w : World), (∀ (j : Nat) x, ys[j]? = some x → w.cell? ⟨bk, o + j, none⟩ = some (.string x)) → bk < w.heap.size → ys.length ≤ 140737488355328 → ys.length ≤ c →
   (Lib.join (ys.map (·.data.toList)) sep).length ≤ 140737488355328 → Calls P f #[.slice (some ⟨bk, o, none⟩) ys.length c, .string ⟨sep.toArray⟩] w fun e w' => e = .returned (.string ⟨(Lib.join (ys.map (·.data.toList)) sep).toArray⟩) ∧ Below w.heap.size w w') :
  FnOk P f [fV (Rep.slice Rep.str) xs, fV Rep.str sep] (fV Rep.str r) := by
 unfold qJ2 at H
 cases hi : Nat.ble (Lib.join xs sep).length 140737488355328 && Nat.ble xs.length 140737488355328 with
 | false => rw [hi] at H; cases H
 | true =>
  rw [hi] at H; cases H
  simp only [Bool.and_eq_true, Nat.ble_eq] at hi
  intro κ B L h w vs hst hl hargs
  obtain ⟨a, b, rfl⟩ : ∃ a b, vs = [a, b] := by
   match vs, hl with
   | [a, b], _ => exact ⟨a, b, rfl⟩
  have hb := jVz.1 (hargs 1 _ b rfl rfl)
  subst hb
  obtain ⟨cs, ⟨v, rfl, k⟩, rfl⟩ := hargs 0 _ a rfl rfl
  have nil : ∀ a c, xs = [] → Calls P f #[.slice a 0 c, .string ⟨sep.toArray⟩] w (fun e w' => ∃ v h', e = .returned v ∧ Hle h h' ∧ St B h' L w' ∧ (fV Rep.str (Lib.join xs sep)).p h' undef v) := by
   rintro a c rfl
   refine (h0 w a c).mono ?_
   rintro e w' ⟨rfl, rfl⟩
   exact ⟨_, h, rfl, Hle.refl h, hst, jVz.2 rfl⟩
  rcases k with ⟨⟨base, rfl⟩, e⟩ | ⟨bk, o, c, rfl, hc, hx, _⟩
  ·exact nil base 0 e
  ·by_cases e : xs = []
   ·subst e; exact nil _ c rfl
   ·have hcell : ∀ (j : Nat) x, (xs.map bA)[j]? = some x → w.cell? ⟨bk, o + j, none⟩ = some (.string x) := by
     intro j x hj
     rw [List.getElem?_map] at hj
     cases hxj : xs[j]? with
     | none => rw [hxj] at hj; cases hj
     | some y =>
      rw [hxj] at hj; cases hj
      obtain ⟨cs, hcs, hg⟩ := hx j y hxj
      rw [show cs = [.string ⟨y.toArray⟩] from hcs] at hg
      have := hst.ext (hg 0 _ rfl)
      rw [show Rep.str.sz = 1 from rfl] at this
      simpa [bA] using this
    have hlt : bk < w.heap.size := by
     obtain ⟨y, r, rfl⟩ := List.exists_cons_of_ne_nil e
     exact World.block_lt_of_cell? w _ (hcell 0 _ rfl)
    have := h1 bk o c (xs.map bA) w hcell hlt (by rw [List.length_map]; exact hi.2) (by rw [List.length_map]; exact hc) (by rw [qZz]; exact hi.1)
    rw [List.length_map, qZz] at this
    refine this.mono ?_
    rintro e w' ⟨rfl, hb⟩
    exact ⟨_, h, rfl, Hle.refl h, hst.belowG hb, jVz.2 rfl⟩
def jN1 (s sep : Str) : List Str := (Lib.splitB (bA sep) 0 (Lib.countB (bA s) (bA sep)) (bA s)).map (·.data.toList)
def jA1 (s sep : Str) : Option (List Str) := bif Nat.blt s.length 4294967281 && Nat.ble 1 sep.length then some (jN1 s sep) else none
theorem qZ1 {f : FuncId} {s sep : Str} {r : List Str} {t : TypeId} (H : jA1 s sep = some r)
  (hc : ∀ w, GF w → (bA s).size < 4294967281 → 1 ≤ (bA sep).size → Calls P f #[.string (bA s), .string (bA sep)] w fun e w' =>
   e = .returned (.slice (some ⟨w.heap.size, 0, none⟩) (Lib.countB (bA s) (bA sep) + 1) (Lib.countB (bA s) (bA sep) + 1)) ∧ w' = w.alloc (.cells ((Lib.splitB (bA sep) 0 (Lib.countB (bA s) (bA sep)) (bA s)).map Value.string).toArray t)) :
  FnOk P f [fV Rep.str s, fV Rep.str sep] (fV (Rep.slice Rep.str) r) := by
 unfold jA1 at H
 cases hi : Nat.blt s.length 4294967281 && Nat.ble 1 sep.length with
 | false => rw [hi] at H; cases H
 | true =>
  rw [hi] at H; cases H
  simp only [Bool.and_eq_true, Nat.ble_eq, Nat.blt_eq] at hi
  intro κ B L h w vs hst hl hargs
  obtain ⟨a, b, rfl⟩ : ∃ a b, vs = [a, b] := by
   match vs, hl with
   | [a, b], _ => exact ⟨a, b, rfl⟩
  have ha := jVz.1 (hargs 0 _ a rfl rfl)
  have hb := jVz.1 (hargs 1 _ b rfl rfl)
  subst ha hb
  have h1 : 1 ≤ (bA sep).size := by simpa [bA, ByteArray.size] using hi.2
  refine (hc w (qJ4 hst.gok.2) (by simpa [bA, ByteArray.size] using hi.1) h1).mono ?_
  rintro e w' ⟨rfl, rfl⟩
  have hlen := Lib.splitB_all (bA sep) h1 0 _ (bA s) rfl
  have hall := hst.allocP ((Lib.splitB (bA sep) 0 (Lib.countB (bA s) (bA sep)) (bA s)).map Value.string) t
  have hl2 : (jN1 s sep).length = Lib.countB (bA s) (bA sep) + 1 := by unfold jN1; rw [List.length_map, hlen]
  suffices key : jH8 Rep.str (hadd h w.heap.size ((Lib.splitB (bA sep) 0 (Lib.countB (bA s) (bA sep)) (bA s)).map Value.string)) (.slice (some ⟨w.heap.size, 0, none⟩) (Lib.countB (bA s) (bA sep) + 1) (Lib.countB (bA s) (bA sep) + 1)) (jN1 s sep) from
   ⟨_, _, rfl, hall.1, hall.2, [.slice (some ⟨w.heap.size, 0, none⟩) (Lib.countB (bA s) (bA sep) + 1) (Lib.countB (bA s) (bA sep) + 1)], ⟨_, rfl, key⟩, rfl⟩
  refine .inr ⟨w.heap.size, 0, Lib.countB (bA s) (bA sep) + 1, by rw [hl2], Nat.le_of_eq hl2, ?_, fun e => absurd e (by decide)⟩
  intro i x hx
  unfold jN1 at hx
  rw [List.getElem?_map] at hx
  cases hy : (Lib.splitB (bA sep) 0 (Lib.countB (bA s) (bA sep)) (bA s))[i]? with
  | none => rw [hy] at hx; cases hx
  | some y =>
   rw [hy] at hx; cases hx
   refine ⟨[.string y], by show _ = _; simp, fun j v hj => ?_⟩
   cases j with
   | zero =>
    cases hj
    rw [show Rep.str.sz = 1 from rfl, Nat.zero_add, Nat.mul_one, Nat.add_zero]
    have hi : i < ((Lib.splitB (bA sep) 0 (Lib.countB (bA s) (bA sep)) (bA s)).map Value.string).length := by rw [List.length_map]; exact (List.getElem?_eq_some_iff.1 hy).1
    rw [jGr hi, ← List.getElem?_eq_getElem hi, List.getElem?_map, hy]; rfl
   | succ j => cases hj
def qJh (s sep : Str) : Option Int := bif Nat.blt s.length 4294967281 then some (Lib.index s sep) else none
theorem qXr {f : FuncId} {s sep : Str} {r : Int} (H : qJh s sep = some r)
  (hc : ∀ w, GF w → (bA s).size < 4294967281 → Calls P f #[.string (bA s), .string (bA sep)] w fun e w' => e = .returned (.int .i64 (Lib.index s sep)) ∧ w' = w) :
  FnOk P f [fV Rep.str s, fV Rep.str sep] (fV (Rep.int .i64) r) := by
 unfold qJh at H
 cases hi : Nat.blt s.length 4294967281 with
 | false => rw [hi] at H; cases H
 | true =>
  rw [hi] at H; cases H
  rw [Nat.blt_eq] at hi
  intro κ B L h w vs hst hl hargs
  obtain ⟨a, b, rfl⟩ : ∃ a b, vs = [a, b] := by
   match vs, hl with
   | [a, b], _ => exact ⟨a, b, rfl⟩
  have ha := jVz.1 (hargs 0 _ a rfl rfl)
  have hb := jVz.1 (hargs 1 _ b rfl rfl)
  subst ha hb
  refine (hc w (qJ4 hst.gok.2) (by simpa [bA, ByteArray.size] using hi)).mono ?_
  rintro e w' ⟨rfl, rfl⟩
  exact ⟨_, h, rfl, Hle.refl h, hst, jXk.2 rfl⟩
def cutP (s sep : Str) : Option (Str × Str × Bool) := bif Nat.blt s.length 4294967281 then some (Lib.cut s sep) else none
theorem qK0 {f : FuncId} {s sep : Str} {r : Str × Str × Bool} (H : cutP s sep = some r)
  (hc : ∀ w, GF w → (bA s).size < 4294967281 → Calls P f #[.string (bA s), .string (bA sep)] w fun e w' => e = .returned (.tuple #[.string ⟨(Lib.cut s sep).1.toArray⟩, .string ⟨(Lib.cut s sep).2.1.toArray⟩, .bool (Lib.cut s sep).2.2]) ∧ ∃ n, w' = w.drewN n) :
  FnOk P f [fV Rep.str s, fV Rep.str sep] (fT3 (fV Rep.str r.1) (fV Rep.str r.2.1) (fV Rep.bool r.2.2)) := by
 unfold cutP at H
 cases hi : Nat.blt s.length 4294967281 with
 | false => rw [hi] at H; cases H
 | true =>
  rw [hi] at H; cases H
  rw [Nat.blt_eq] at hi
  intro κ B L h w vs hst hl hargs
  obtain ⟨a, b, rfl⟩ : ∃ a b, vs = [a, b] := by
   match vs, hl with
   | [a, b], _ => exact ⟨a, b, rfl⟩
  have ha := jVz.1 (hargs 0 _ a rfl rfl)
  have hb := jVz.1 (hargs 1 _ b rfl rfl)
  subst ha hb
  refine (hc w (qJ4 hst.gok.2) (by simpa [bA, ByteArray.size] using hi)).mono ?_
  rintro e w' ⟨rfl, n, rfl⟩
  exact ⟨_, h, rfl, Hle.refl h, hst.belowG ⟨rfl, rfl, rfl, by simp [World.drewN], fun j hj => by simp only [World.drewN]⟩, _, _, _, rfl, jVz.2 rfl, jVz.2 rfl, jX2.2 rfl⟩
def bldW (x s : Str) : Option Str := bif Nat.ble (x.length + s.length) 140737488355328 then some (x ++ s) else none
def bldS (x : Str) : Option Str := some x
end Go.KB
namespace Go.KB
variable {P : Program} {o : Oper} {N : List (Nat × jJa)}
def qZj (b : Nat) (c0 c2 : Value) (T : TypeId) (s sep : Str) (n : Int) : Ent where
 claims := [(b, 0)]
 ok := fun h m => (∃ cs, m b = some (.cells cs.toArray T (0, 0)) ∧ Rep.str.rel h cs s) ∧ (jQu Rep.str sep).p h undef c0 ∧ (jQu (Rep.int .i64) n).p h undef c2
 mono := by
  intro h h' m hl ⟨⟨cs, e, k⟩, k0, k2⟩
  exact ⟨⟨cs, e, Rep.str.mono hl k⟩, (jQu _ _).mono hl k0, (jQu _ _).mono hl k2⟩
 frame := by
  intro h m m' hm ⟨⟨cs, e, k⟩, k0, k2⟩
  exact ⟨⟨cs, by rw [hm (b, 0) (by simp)]; exact e, k⟩, k0, k2⟩
def qQe (f : FuncId) (T : TypeId) (s sep : Str) (n : Int) : jX3 := fun v e => ∃ b c0 c2, v = .func (.func f) #[] #[c0, .pointer (some ⟨b, 0, none⟩), c2] ∧ e = qZj b c0 c2 T s sep n
theorem qV9 {f : FuncId} {T : TypeId} {s sep : Str} {n : Int} {t0 t1 t2 d : Nat} (hsd : Nat.beq t1 d = false) (hd : o.dst = some d) (ho : o.op = .makeFunc (.func f) #[] #[.tmp t0, .tmp t1, .tmp t2])
  (h0 : jJ9 N (.tmp t0) (jQu Rep.str sep)) (h2 : jJ9 N (.tmp t2) (jQu (Rep.int .i64) n)) : jXg P o N [(t1, jJ8 T Rep.str s)] jJa.triv [(t1, none), (d, some (qQe f T s sep n))] := by
 intro κ B F L h a w hst hn hk hdn next Q hnext _
 obtain ⟨e, hL, b, hv, rfl⟩ := hk.1
 have hne : t1 ≠ d := fun x => by rw [jWm.2 x] at hsd; cases hsd
 have k0 := h0 h a hn
 have k2 := h2 h a hn
 have hok := (hst.own (k := Sum.inl t1) hL).2
 have hst2 := hst.swap (e' := qZj b (a.eval (.tmp t0)) (a.eval (.tmp t2)) T s sep n) hL (fun c hc => ⟨c, hc, rfl, Nat.le_refl _⟩) ⟨hok, k0, k2⟩
 unfold Oper.wpK
 have : (execOp a.eval o).run P w = .ok (.value (.func (.func f) #[] #[a.eval (.tmp t0), .pointer (some ⟨b, 0, none⟩), a.eval (.tmp t2)])) w := by
  have hv' : a.eval (.tmp t1) = .pointer (some ⟨b, 0, none⟩) := hv
  simp [execOp, ho, Instr.makeFunc, hv']
 rw [this]
 refine hnext _ h w _ (Hle.refl h) trivial (hst2.mv t1 d) ?_
 rw [hd]
 exact jSv (L0 := L) (fun k hk => by simp [set1, hk]) hne jDx ⟨b, _, _, by rw [jQe (hdn d hd)], rfl⟩
section
variable {κ : Type} {B : Base} {h0 : H} {Γ : Ctx} {Λ : Own} {F : κ → Option Ent} {n : Nat} {a : Act} {w : World}
theorem At.seqGhost {f : FuncId} {T : TypeId} {s sep : Str} {m : Int} (t g : Nat) (hsg : Nat.beq t g = false) (hAt : At B h0 Γ Λ F n a w) (hs : Λ t = some (qQe f T s sep m)) :
  ∃ u, At B h0 (fun k => bif Nat.beq t k then jK4 f [jQu Rep.str sep, fIs u, jQu (Rep.int .i64) m] else Γ k) (fun k => bif Nat.beq g k then some (atV (jJ6 T Rep.str s []) u) else bif Nat.beq t k then none else Λ k) F n a w := by
 obtain ⟨h, L, hle, hst, hOw, hsat, hsz, hdf⟩ := hAt
 obtain ⟨e, hL, b, c0, c2, hv, rfl⟩ := hOw t _ hs
 have hne : t ≠ g := fun x => by rw [jWm.2 x] at hsg; cases hsg
 obtain ⟨hb, k0, k2⟩ := (hst.own (k := Sum.inl t) hL).2
 obtain ⟨cs, hb1, hb2⟩ := hb
 have hst2 := hst.swap (e' := jV9 b T Rep.str s []) hL (fun c hc => ⟨c, by simpa [jV9, qZj, qQ1] using hc, rfl, Nat.le_refl _⟩) ⟨⟨cs, hb1, hb2, fun u hu => by cases hu⟩, fun u hu => by cases hu⟩
 refine ⟨.pointer (some ⟨b, 0, none⟩), h, mv (set1 L t (jV9 b T Rep.str s [])) t g, hle, hst2.mv t g, ?_, ?_, hsz, hdf⟩
 ·intro k q' hq'
  cases hk : Nat.beq g k with
  | true =>
   simp only [hk, cond_true] at hq'; cases hq'; rw [jWm] at hk; subst hk
   exact ⟨jV9 b T Rep.str s [], by simp [mv, set1], b, [], rfl, trivial, ⟨List.Pairwise.nil, fun u hu => by cases hu⟩, rfl⟩
  | false =>
   simp only [hk, cond_false] at hq'
   cases hk2 : Nat.beq t k with
   | true => simp only [hk2, cond_true] at hq'; cases hq'
   | false =>
    simp only [hk2, cond_false] at hq'
    have n1 : k ≠ g := fun x => by rw [jWm.2 x.symm] at hk; cases hk
    have n2 : k ≠ t := fun x => by rw [jWm.2 x.symm] at hk2; cases hk2
    obtain ⟨e', h1, h2⟩ := hOw k q' hq'
    exact ⟨e', by simp [mv, set1, n1, n2, h1], h2⟩
 ·intro k
  cases hk : Nat.beq t k with
  | true =>
   simp only [hk, cond_true]
   rw [jWm] at hk; subst hk
   show ∃ cap : List Value, a.gt t = .func (.func f) #[] cap.toArray ∧ _
   refine ⟨[c0, .pointer (some ⟨b, 0, none⟩), c2], hv, rfl, fun j gg u hg hu => ?_⟩
   match j, hg, hu with
   | 0, hg, hu => cases hg; cases hu; exact k0
   | 1, hg, hu => cases hg; cases hu; rfl
   | 2, hg, hu => cases hg; cases hu; exact k2
  | false => simp only [hk, cond_false]; exact hsat k
end
end Go.KB
namespace Go.KB
open RowKit Go.Proofs Go.Shelf
section
variable {P : Program} {w : World}
theorem ownsF0 {base e n : Nat} {v : Value} {xs : List Value} (h : w.ownsRowF base e 1 v n xs) : w.ownsRowF 0 e 1 v n xs :=
 ⟨h.1, h.2.imp id fun ⟨g, cap, cur, fz, h1, _, h3⟩ => ⟨g, cap, cur, fz, h1, Nat.zero_le _, h3⟩⟩
theorem qUp (t u ty e : TypeId) (i : TypeInfo) (ht : P.underlying t = some (.slice e)) (hu : P.underlying u = some .string) (hi : P.info? e = some i) (hz : i.zero = some (.int .u8 0)) (hsize : i.size = 1) (hby : i.bytes = 1)
    (v : Value) (n : Nat) (xs : List Value) (hown : w.ownsRowF 0 e 1 v n xs) (s : ByteArray) (hbytes : n + s.size ≤ 140737488355328) :
    ∃ v' w', (Builtin.append_ #[t, u] ty #[v, .string s]).run P w = .ok v' w' ∧ w'.ownsRowF 0 e 1 v' (n + s.size) (xs ++ Lib.strCells s) ∧ w.grownBy w' v.ownBlock ∧ (v'.ownBlock = v.ownBlock ∨ ∃ k, v'.ownBlock = some k ∧ w.heap.size ≤ k) := by
  have h63 : n + s.size ≤ maxLen := by unfold maxLen; omega
  rcases hown.2 with ⟨rfl, rfl⟩ | ⟨g, cap, cur, fz, rfl, hbg, hg, hfz, hnc, hcm, hcs, htake⟩
  · obtain ⟨v', w', h1, h2, h3, _⟩ := Lib.run_append_own_string (P := P) w w.heap.size t u ty e i ht hu hi hz hsize hby (.slice none 0 0) 0 xs ⟨hown.1, .inl ⟨rfl, rfl⟩⟩ s h63 hbytes (Nat.le_refl _)
    have h2' := World.ownsRowF_of h2
    refine ⟨v', w', h1, ownsF0 h2', h3, ?_⟩
    rcases h2'.2 with ⟨rfl, _⟩ | ⟨g, _, _, _, rfl, hb, _⟩
    · exact .inl rfl
    · exact .inr ⟨g, rfl, hb⟩
  · obtain ⟨v', w', h1, h2, h3, _⟩ := Lib.run_append_own_stringF (P := P) w 0 t u ty e i ht hu hi hz hsize hby _ n xs hown s h63 hbytes (Nat.zero_le _)
    refine ⟨v', w', h1, h2, h3, ?_⟩
    by_cases hroom : n + s.size ≤ cap
    · have hr := Lib.run_append_room_stringF (P := P) w t u ty e i ht hu hi hsize g n cap cur fz hg (by simpa using hfz) s hroom (by rw [hcs]; omega)
      rw [hr] at h1
      cases h1; exact .inl rfl
    · have hxl : xs.length = n := by simpa using hown.1
      have hr := Lib.run_append_grow_string (P := P) w t u ty e i (.int .u8 0) ht hu hi hz ⟨g, 0, none⟩ n cap xs (by rw [hsize]; simpa using hxl) (hown.cells (g := g) rfl) s (by omega) (by omega) (by rw [hby]; exact growslice_fits (by omega) (by omega))
      rw [hr] at h1
      cases h1; exact .inr ⟨w.heap.size, rfl, Nat.le_refl _⟩
theorem jCz {ops : Array Oper} {rest : List Oper} {o : Oper} {a : Act} {Q : Exit → Act → World → Prop} (hgd : o.guard = none) (sl x : Operand) (t u : TypeId)
  (ho : o.op = .call { callee := .builtin .append, args := #[sl, x], argTypes := #[t, u] }) (e : TypeId) (i : TypeInfo) (ht : P.underlying t = some (.slice e)) (hu : P.underlying u = some .string) (hi : P.info? e = some i) (hz : i.zero = some (.int .u8 0))
  (hsize : i.size = 1) (hby : i.bytes = 1) (v : Value) (n : Nat) (xs : List Value) (hs : a.eval sl = v) (hown : w.ownsRowF 0 e 1 v n xs) (s : ByteArray) (hx : a.eval x = .string s) (hbytes : n + s.size ≤ 140737488355328)
  (h : ∀ v' w', w'.ownsRowF 0 e 1 v' (n + s.size) (xs ++ Lib.strCells s) → w.grownBy w' v.ownBlock → (v'.ownBlock = v.ownBlock ∨ ∃ k, v'.ownBlock = some k ∧ w.heap.size ≤ k) → wpList P ops Q rest (a.put o.dst v') w') : wpList P ops Q (o :: rest) a w := by
 refine wpList_plain hgd fun K hK => ?_
 obtain ⟨v', w', hr, h2, h3, h4⟩ := qUp t u o.type e i ht hu hi hz hsize hby v n xs hown s hbytes
 unfold Oper.wp execOp
 simp only [ho, resolve, invoke, builtin, Sem.run_bind, Sem.run_pure, Result.andThen_ok, List.map_toArray, List.map_cons, List.map_nil, hs, hx, hr]
 exact hK _ _ (h v' w' h2 h3 h4)
end
section
variable {P : Program} {ρ : Ren}
def IsB (T e b : Nat) (v : Value) (bs : List Value) (w : World) : Prop :=
 (∃ p, (p = .pointer none ∨ p = .pointer (some ⟨b, 0, none⟩)) ∧ w.heap[b]? = some (.cells #[p, v] T (0, 0))) ∧ w.ownsRowF 0 e 1 v bs.length bs ∧ v.ownBlock ≠ some b
structure FrB (b : Nat) (k : Option Nat) (w w' : World) : Prop where
 os : w'.os = w.os
 tape : w'.tape = w.tape
 output : w'.output = w.output
 size : w.heap.size ≤ w'.heap.size
 block : ∀ i, i < w.heap.size → i ≠ b → some i ≠ k → w'.heap[i]? = w.heap[i]?
theorem IsB.lt {T e b : Nat} {v : Value} {bs : List Value} {w : World} (h : IsB T e b v bs w) : b < w.heap.size := by
 obtain ⟨⟨p, _, hb⟩, _⟩ := h
 exact (Array.getElem?_eq_some_iff.1 hb).1
theorem qX3 {b g n : Nat} {w : World} : FrB b (some g) w ((w.drew).freeze ⟨g, 0, none⟩ n) := by
  unfold World.freeze
  split
  · exact ⟨rfl, rfl, rfl, Nat.le_refl _, fun _ _ _ _ => rfl⟩
  · refine ⟨rfl, rfl, rfl, by simp, fun i _ _ h2 => ?_⟩
    simp only [Array.getElem?_modify]
    rw [if_neg (fun e => h2 (by rw [← e]))]; rfl
set_option maxHeartbeats 2000000 in
set_option maxRecDepth 100000 in
theorem qJ6 (L : Lays.n169 P ρ) (X : Builder.Extra P ρ) (b : Nat) (v : Value) (l : List UInt8) (w : World) (h : IsB (ρ.t 72) (ρ.t 5) b v (Lib.byteCells l) w) (h0 : l ≠ []) :
  Calls P (ρ.f 169) #[.pointer (some ⟨b, 0, none⟩)] w fun e w' => e = .returned (.string ⟨l.toArray⟩) ∧ FrB b v.ownBlock w w' := by
 obtain ⟨⟨p, hp, hbk⟩, hown, hne⟩ := h
 have hl0 : l.length ≠ 0 := by simpa using h0
 rw [Lib.byteCells_length] at hown
 obtain ⟨g, cap, cur, fz, rfl, hbg, hg, hfz, hnc, hcm, hcs, htake⟩ : ∃ g cap cur fz, v = .slice (some ⟨g, 0, none⟩) l.length cap ∧ 0 ≤ g ∧ w.heap[g]? = some (.cells cur (ρ.t 5) fz) ∧ fz.2 ≤ l.length * 1 ∧ l.length ≤ cap ∧ cap ≤ maxLen ∧ cur.size = cap * 1 ∧ cur.toList.take (l.length * 1) = Lib.byteCells l := by
  rcases hown.2 with ⟨_, hz⟩ | ⟨g, cap, cur, fz, hv, r⟩
  ·exact absurd hz hl0
  ·exact ⟨g, cap, cur, fz, hv, r⟩
 have c1 : w.drew.cell? ⟨b, 1, none⟩ = some (.slice (some ⟨g, 0, none⟩) l.length cap) := by
  have : w.drew.heap[b]? = some (.cells #[p, .slice (some ⟨g, 0, none⟩) l.length cap] (ρ.t 72) (0, 0)) := hbk
  rw [Lib.cell_of_heap this]; rfl
 have hSD : (Builtin.unsafeSliceData_ #[(ρ.t 37)] (ρ.t 127) #[.slice (some ⟨g, 0, none⟩) l.length cap]).run P w.drew = .ok (.pointer (some ⟨g, 0, none⟩)) w.drew :=
  Lib.run_unsafeSliceData_row _ _ _ _ _ _ (by omega)
 have hUS : (Builtin.unsafeString_ #[(ρ.t 127), (ρ.t 3)] (ρ.t 9) #[.pointer (some ⟨g, 0, none⟩), .int .i64 l.length]).run P w.drew = .ok (.string ⟨l.toArray⟩) (w.drew.freeze ⟨g, 0, none⟩ l.length) := by
  refine Lib.run_unsafeString_row w.drew (ρ.t 127) (ρ.t 3) (ρ.t 9) (ρ.t 5) L.t127 X.cellsByte g cur.size (by have hg' : w.drew.heap[g]? = some (.cells cur (ρ.t 5) fz) := hg; simp [World.shape?, hg']) l h0 (by omega) (by unfold maxLen at hcm; omega) ?_
  intro j x hx
  exact hown.cells (g := g) rfl j (.int .u8 x.toNat) (by simp [Lib.byteCells, hx])
 have mixed := L.mixed
 have t72 := L.t72; have a72 := L.a72; have z72 := L.z72; have v72 := L.v72; have u72 := run_underlying L.t72
 have t70 := L.t70; have a70 := L.a70; have z70 := L.z70; have v70 := L.v70; have u70 := run_underlying L.t70
 have t37 := L.t37; have a37 := L.a37; have z37 := L.z37; have v37 := L.v37; have u37 := run_underlying L.t37
 have t127 := L.t127; have a127 := L.a127; have z127 := L.z127; have v127 := L.v127; have u127 := run_underlying L.t127
 have t3 := L.t3; have a3 := L.a3; have z3 := L.z3; have v3 := L.v3; have u3 := run_underlying L.t3
 have t9 := L.t9; have a9 := L.a9; have z9 := L.z9; have v9 := L.v9; have u9 := run_underlying L.t9
 have t5 := X.t5; have a5 := X.a5; have z5 := X.z5; have v5 := X.v5; have u5 := run_underlying X.t5
 go_enter L.f169, Body.n169_ntmps ρ
 go_wp2
 go_region_o
 all_goals (go_wp2; go_ret; exact ⟨rfl, qX3⟩)
set_option maxHeartbeats 2000000 in
set_option maxRecDepth 100000 in
theorem jMb (L : Lays.n169 P ρ) (X : Builder.Extra P ρ) (b : Nat) (ao : Option Addr) (cap : Nat) (q : Option Addr) (w : World) (c1 : w.drew.cell? ⟨b, 1, none⟩ = some (.slice ao 0 cap)) (hSD : (Builtin.unsafeSliceData_ #[(ρ.t 37)] (ρ.t 127) #[.slice ao 0 cap]).run P w.drew = .ok (.pointer q) w.drew) :
  Calls P (ρ.f 169) #[.pointer (some ⟨b, 0, none⟩)] w fun e w' => e = .returned (.string ⟨#[]⟩) ∧ w' = w.drew := by
 have hUS : (Builtin.unsafeString_ #[(ρ.t 127), (ρ.t 3)] (ρ.t 9) #[.pointer q, .int .i64 0]).run P w.drew = .ok (.string ⟨#[]⟩) w.drew := Lib.run_unsafeString_none _ _ _ _ _
 have mixed := L.mixed
 have t72 := L.t72; have a72 := L.a72; have z72 := L.z72; have v72 := L.v72; have u72 := run_underlying L.t72
 have t70 := L.t70; have a70 := L.a70; have z70 := L.z70; have v70 := L.v70; have u70 := run_underlying L.t70
 have t37 := L.t37; have a37 := L.a37; have z37 := L.z37; have v37 := L.v37; have u37 := run_underlying L.t37
 have t127 := L.t127; have a127 := L.a127; have z127 := L.z127; have v127 := L.v127; have u127 := run_underlying L.t127
 have t3 := L.t3; have a3 := L.a3; have z3 := L.z3; have v3 := L.v3; have u3 := run_underlying L.t3
 have t9 := L.t9; have a9 := L.a9; have z9 := L.z9; have v9 := L.v9; have u9 := run_underlying L.t9
 have t5 := X.t5; have a5 := X.a5; have z5 := X.z5; have v5 := X.v5; have u5 := run_underlying X.t5
 go_enter L.f169, Body.n169_ntmps ρ
 go_wp2
 go_region_o
 all_goals (go_wp2; go_ret; exact ⟨rfl, rfl⟩)
set_option maxHeartbeats 2000000 in
set_option maxRecDepth 100000 in
theorem jTy (L : Lays.n169 P ρ) (X : Builder.Extra P ρ) (b : Nat) (ao : Option Addr) (q : Option Addr) (o : Obj) (w : World) (c1 : w.drew.cell? ⟨b, 1, none⟩ = some (.slice ao 0 0)) (c2 : (w.alloc o).cell? ⟨b, 1, none⟩ = some (.slice ao 0 0))
  (hSD : (Builtin.unsafeSliceData_ #[(ρ.t 37)] (ρ.t 127) #[.slice ao 0 0]).run P w.drew = .ok (.pointer q) (w.alloc o).drew) :
  Calls P (ρ.f 169) #[.pointer (some ⟨b, 0, none⟩)] w fun e w' => e = .returned (.string ⟨#[]⟩) ∧ w' = (w.alloc o).drew := by
 have hUS : (Builtin.unsafeString_ #[(ρ.t 127), (ρ.t 3)] (ρ.t 9) #[.pointer q, .int .i64 0]).run P (w.alloc o).drew = .ok (.string ⟨#[]⟩) (w.alloc o).drew := Lib.run_unsafeString_none _ _ _ _ _
 have mixed := L.mixed
 have t72 := L.t72; have a72 := L.a72; have z72 := L.z72; have v72 := L.v72; have u72 := run_underlying L.t72
 have t70 := L.t70; have a70 := L.a70; have z70 := L.z70; have v70 := L.v70; have u70 := run_underlying L.t70
 have t37 := L.t37; have a37 := L.a37; have z37 := L.z37; have v37 := L.v37; have u37 := run_underlying L.t37
 have t127 := L.t127; have a127 := L.a127; have z127 := L.z127; have v127 := L.v127; have u127 := run_underlying L.t127
 have t3 := L.t3; have a3 := L.a3; have z3 := L.z3; have v3 := L.v3; have u3 := run_underlying L.t3
 have t9 := L.t9; have a9 := L.a9; have z9 := L.z9; have v9 := L.v9; have u9 := run_underlying L.t9
 have t5 := X.t5; have a5 := X.a5; have z5 := X.z5; have v5 := X.v5; have u5 := run_underlying X.t5
 go_enter L.f169, Body.n169_ntmps ρ
 go_wp2
 go_region_o
 all_goals (go_wp2; go_ret; exact ⟨rfl, rfl⟩)
theorem jCu (L : Lays.n169 P ρ) (X : Builder.Extra P ρ) (b : Nat) (v : Value) (w : World) (h : IsB (ρ.t 72) (ρ.t 5) b v [] w) :
  Calls P (ρ.f 169) #[.pointer (some ⟨b, 0, none⟩)] w fun e w' => e = .returned (.string ⟨#[]⟩) ∧ FrB b v.ownBlock w w' := by
 obtain ⟨⟨p, hp, hbk⟩, hown, hne⟩ := h
 have hc : ∀ x, v = x → w.drew.cell? ⟨b, 1, none⟩ = some x := fun x e => by
  have : w.drew.heap[b]? = some (.cells #[p, v] (ρ.t 72) (0, 0)) := hbk
  rw [Lib.cell_of_heap this, e]; rfl
 have hfr : FrB b v.ownBlock w w.drew := ⟨rfl, rfl, rfl, Nat.le_refl _, fun _ _ _ _ => rfl⟩
 rcases hown.2 with ⟨rfl, _⟩ | ⟨g, cap, cur, fz, rfl, hbg, hg, hfz, hnc, hcm, hcs, htake⟩
 ·refine (jMb L X b none 0 none w (hc _ rfl) (Lib.run_unsafeSliceData_nil _ _ _ _ _)).mono ?_
  rintro e w' ⟨h1, rfl⟩
  exact ⟨h1, hfr⟩
 ·by_cases h0 : cap = 0
  ·subst h0
   have hsh : w.drew.shape? g = some (ρ.t 5, cur.size) := by
    have hg' : w.drew.heap[g]? = some (.cells cur (ρ.t 5) fz) := hg
    simp [World.shape?, hg']
   refine (jTy L X b _ _ _ w (hc _ rfl) ?_ (Lib.run_unsafeSliceData_zero _ _ _ _ L.t127 _ _ _ hsh)).mono ?_
   ·have hb : b < w.drew.heap.size := (Array.getElem?_eq_some_iff.1 hbk).1
    rw [show some (Value.slice (some ⟨g, 0, none⟩) 0 0) = _ from (hc _ rfl).symm]
    show (w.alloc _).cell? _ = w.cell? _
    exact World.cell?_of_block (Below.heap_alloc w _ _ hb)
   ·rintro e w' ⟨h1, rfl⟩
    refine ⟨h1, ?_, ?_, ?_, ?_, ?_⟩
    ·rfl
    ·rfl
    ·rfl
    ·show w.heap.size ≤ (w.alloc _).heap.size
     exact Nat.le_of_lt (by simp)
    ·intro i hi _ _
     exact Below.heap_alloc w _ _ hi
  ·refine (jMb L X b _ cap _ w (hc _ rfl) (Lib.run_unsafeSliceData_row _ _ _ _ _ _ h0)).mono ?_
   rintro e w' ⟨h1, rfl⟩
   exact ⟨h1, hfr⟩
end
def blC (b : Nat) (v : Value) : List (Nat × Nat) := (b, 0) :: (match v.ownBlock with | some k => [(k, 0)] | none => [])
theorem jGh {b : Nat} {v : Value} {c : Nat × Nat} : c ∈ blC b v ↔ c = (b, 0) ∨ ∃ k, v.ownBlock = some k ∧ c = (k, 0) := by
 unfold blC
 cases v.ownBlock <;> simp
theorem IsB.congr {T e b : Nat} {v : Value} {bs : List Value} {w w' : World} (h : IsB T e b v bs w) (hw : ∀ i, (i = b ∨ v.ownBlock = some i) → w'.heap[i]? = w.heap[i]?) : IsB T e b v bs w' := by
 obtain ⟨⟨p, hp, hb⟩, ho, hn⟩ := h
 refine ⟨⟨p, hp, by rw [hw b (.inl rfl)]; exact hb⟩, ⟨ho.1, ho.2.imp id ?_⟩, hn⟩
 rintro ⟨g, cap, cur, fz, rfl, h0, hg, hr⟩
 exact ⟨g, cap, cur, fz, rfl, h0, by rw [hw g (.inr rfl)]; exact hg, hr⟩
def jP4 (T e b : Nat) (v : Value) (x : Str) : Ent where
 claims := blC b v
 ok := fun _ m => ∃ w : World, (∀ i, (i = b ∨ v.ownBlock = some i) → w.heap[i]? = m i) ∧ IsB T e b v (Lib.byteCells x) w
 mono := fun _ k => k
 frame := by
  intro h m m' hm ⟨w, h1, h2⟩
  refine ⟨w, fun i hi => ?_, h2⟩
  rw [h1 i hi]
  rcases hi with rfl | hi
  ·exact (hm (i, 0) (jGh.2 (.inl rfl))).symm
  ·exact (hm (i, 0) (jGh.2 (.inr ⟨i, hi, rfl⟩))).symm
def jPb (T e : Nat) (x : Str) : jX3 := fun pv en => ∃ b v, pv = .pointer (some ⟨b, 0, none⟩) ∧ en = jP4 T e b v x
section
variable {P : Program} {o : Oper} {N : List (Nat × jJa)}
theorem qKq {κ : Type} {B : Base} {h : H} {L : κ → Option Ent} {w : World} {T e b : Nat} {v : Value} {x : Str} (hst : St B h L w) {k : κ} (hL : L k = some (jP4 T e b v x)) : IsB T e b v (Lib.byteCells x) w := by
 obtain ⟨w0, h1, h2⟩ := (hst.own hL).2
 exact h2.congr fun i hi => (h1 i hi).symm
theorem qXf {T e d : Nat} (hz : ∀ w, (zeroValue T).run P w = .ok (.agg #[.pointer none, .slice none 0 0]) w) (hd : o.dst = some d) (ho : o.op = .alloc T) : jXg P o N [] jJa.triv [(d, some (jPb T e []))] := by
 intro κ B F L h a w hst hn _ hdn next Q hnext _
 unfold Oper.wpK
 have hnv : (newVar T (.agg #[.pointer none, .slice none 0 0])).run P w = .ok ⟨w.heap.size, 0, none⟩ (w.alloc (.cells #[.pointer none, .slice none 0 0] T)) := rfl
 have : (execOp a.eval o).run P w = .ok (.value (.pointer (some ⟨w.heap.size, 0, none⟩))) (w.alloc (.cells #[.pointer none, .slice none 0 0] T)) := by
  simp [execOp, ho, Instr.alloc, hz, hnv]
 rw [this]
 refine hnext _ h _ (set1 L d (jP4 T e w.heap.size (.slice none 0 0) [])) (Hle.refl h) trivial (hst.own_new _ d _ (by simp [jP4, blC, Value.ownBlock]) ⟨w.alloc (.cells #[.pointer none, .slice none 0 0] T), fun i _ => rfl, ⟨_, .inl rfl, heap_alloc_new w _⟩, ⟨rfl, .inl ⟨rfl, rfl⟩⟩, by simp [Value.ownBlock]⟩) ?_
 rw [hd]
 exact jW5 ⟨_, _, jQe (hdn d hd), rfl⟩
theorem qWb {f : FuncId} {T e k : Nat} {x s r : Str} {sv : Value} (H : bldW x s = some r)
    (hC : ∀ b v w, IsB T e b v (Lib.byteCells x) w → (Lib.byteCells x).length + (bA s).size ≤ 140737488355328 → Calls P f #[.pointer (some ⟨b, 0, none⟩), .string (bA s)] w fun en w' => en = .returned (.tuple #[.int .i64 (bA s).size, .nilIface]) ∧ ∃ v', IsB T e b v' (Lib.byteCells x ++ Lib.strCells (bA s)) w' ∧ FrB b v.ownBlock w w' ∧ (v'.ownBlock = v.ownBlock ∨ ∃ k, v'.ownBlock = some k ∧ w.heap.size ≤ k)) :
    jWf P f [fIs sv, fV Rep.str s] [(k, atV (jPb T e x) sv)] [.to (atV (jPb T e r) sv)] none (fT2 (fV (Rep.int .i64) ((List.length s : Nat) : Int)) (fV Rep.err false)) := by
  unfold bldW at H
  cases hi : Nat.ble (x.length + s.length) 140737488355328 with
  | false => rw [hi] at H; cases H
  | true =>
    rw [hi] at H; cases H
    rw [Nat.ble_eq] at hi
    intro κ B L h w vs E hst hlen hpre hargs
    obtain ⟨a, c, rfl⟩ : ∃ a c, vs = [a, c] := by
      match vs, hlen with
      | [a, c], _ => exact ⟨a, c, rfl⟩
    have ha : a = sv := hargs 0 _ a rfl rfl
    have hc := jVz.1 (hargs 1 _ c rfl rfl)
    subst ha hc
    obtain ⟨⟨en, hE, b, v, rfl, rfl⟩, _⟩ := hpre
    have hI := qKq hst (k := Sum.inl k) hE
    have hcl := (hst.own (k := Sum.inl k) hE).1
    have hsz : (Lib.byteCells x).length + (bA s).size ≤ 140737488355328 := by simpa [Lib.byteCells_length, bA, ByteArray.size] using hi
    refine (hC b v w hI hsz).mono ?_
    rintro en w' ⟨rfl, v', hI', hf, hv'⟩
    have hno : ∀ i, (i = b ∨ v.ownBlock = some i) → ∀ o, h i o = none := fun i hi o => by
      rcases hi with rfl | hi
      · exact (hcl (i, 0) (jGh.2 (.inl rfl))).2.2 o (Nat.zero_le _)
      · exact (hcl (i, 0) (jGh.2 (.inr ⟨i, hi, rfl⟩))).2.2 o (Nat.zero_le _)
    have hlt : ∀ i, v'.ownBlock = some i → i < w'.heap.size := fun i hi => by
      rcases hI'.2.1.2 with ⟨rfl, _⟩ | ⟨g, cap, cur, fz, rfl, _, hg, _⟩
      · cases hi
      · cases hi; exact (Array.getElem?_eq_some_iff.1 hg).1
    have hst' : St B h (Sum.elim (set1 E k (jP4 T e b v' (x ++ s))) L) w' := by
      refine hst.step (Sum.inl k) (fun i => i = b ∨ v.ownBlock = some i) ?_ hf.size hf.os hf.tape hf.output (fun i hi hT => hf.block i hi (fun e => hT (.inl e)) (fun e => hT (.inr e.symm))) (Hle.refl h) (fun _ _ _ _ => rfl) ?_ jUn ?_ (fun e => e.elim) ?_
      · rintro i (rfl | hi) _
        · exact ⟨_, hE, (i, 0), jGh.2 (.inl rfl), rfl⟩
        · exact ⟨_, hE, (i, 0), jGh.2 (.inr ⟨i, hi, rfl⟩), rfl⟩
      · rintro i o' u (hT | hn) hu
        · rw [hno i hT] at hu; cases hu
        · rw [hst.fresh hn] at hu; cases hu
      · intro en hen
        rw [jUt hen]
        refine ⟨fun c hc => ?_, w', fun _ _ => rfl, ?_⟩
        · rcases jGh.1 hc with rfl | ⟨i, hi, rfl⟩
          · exact ⟨.inr ⟨_, hE, (b, 0), jGh.2 (.inl rfl), rfl⟩, by have := hI.lt; have := hf.size; show b < _; omega, fun o' _ => hno b (.inl rfl) o'⟩
          · refine ⟨?_, hlt i hi, fun o' _ => ?_⟩
            · rcases hv' with e | ⟨k', e, hk⟩
              · exact .inr ⟨_, hE, (i, 0), jGh.2 (.inr ⟨i, by rw [← e]; exact hi, rfl⟩), rfl⟩
              · rw [hi] at e; cases e; exact .inl hk
            · rcases hv' with e | ⟨k', e, hk⟩
              · exact hno i (.inr (by rw [← e]; exact hi)) o'
              · rw [hi] at e; cases e; exact hst.fresh hk o'
        · have e : Lib.byteCells (x ++ s) = Lib.byteCells x ++ Lib.strCells (bA s) := by simp [Lib.byteCells, Lib.strCells, bA]
          rw [e]; exact hI'
      · rintro i o' u (hT | hn) _ _ hu
        · rw [hno i hT] at hu; cases hu
        · rw [hst.fresh hn] at hu; cases hu
    exact ⟨_, h, set1 E k (jP4 T e b v' (x ++ s)), rfl, Hle.refl h, hst', ⟨⟨_, jDx, b, v', rfl, rfl⟩, trivial⟩, trivial, _, _, rfl, jXk.2 rfl, qJl⟩
theorem qWx {f : FuncId} {T e k : Nat} {x r : Str} {sv : Value} (H : bldS x = some r)
  (hC : ∀ b v w, IsB T e b v (Lib.byteCells x) w → Calls P f #[.pointer (some ⟨b, 0, none⟩)] w fun en w' => en = .returned (.string ⟨x.toArray⟩) ∧ FrB b v.ownBlock w w') :
  jWf P f [fIs sv] [(k, atV (jPb T e x) sv)] [.gone] none (fV Rep.str r) := by
 cases H
 ·intro κ B L h w vs E hst hlen hpre hargs
  obtain ⟨a, rfl⟩ : ∃ a, vs = [a] := by
   match vs, hlen with
   | [a], _ => exact ⟨a, rfl⟩
  have ha : a = sv := hargs 0 _ a rfl rfl
  subst ha
  obtain ⟨⟨en, hE, b, v, rfl, rfl⟩, _⟩ := hpre
  have hI := qKq hst (k := Sum.inl k) hE
  have hcl := (hst.own (k := Sum.inl k) hE).1
  refine (hC b v w hI).mono ?_
  rintro en w' ⟨rfl, hf⟩
  have hno : ∀ i, (i = b ∨ v.ownBlock = some i) → ∀ o, h i o = none := fun i hi o => by
   rcases hi with rfl | hi
   ·exact (hcl (i, 0) (jGh.2 (.inl rfl))).2.2 o (Nat.zero_le _)
   ·exact (hcl (i, 0) (jGh.2 (.inr ⟨i, hi, rfl⟩))).2.2 o (Nat.zero_le _)
  have hst' : St B h (Sum.elim (fun i => if i = k then none else E i) L) w' := by
   refine hst.step (Sum.inl k) (fun i => i = b ∨ v.ownBlock = some i) ?_ hf.size hf.os hf.tape hf.output (fun i hi hT => hf.block i hi (fun e => hT (.inl e)) (fun e => hT (.inr e.symm))) (Hle.refl h) (fun _ _ _ _ => rfl) ?_ ?_ ?_ (fun e => e.elim) ?_
   ·rintro i (rfl | hi) _
    ·exact ⟨_, hE, (i, 0), jGh.2 (.inl rfl), rfl⟩
    ·exact ⟨_, hE, (i, 0), jGh.2 (.inr ⟨i, hi, rfl⟩), rfl⟩
   ·rintro i o' u (hT | hn) hu
    ·rw [hno i hT] at hu; cases hu
    ·rw [hst.fresh hn] at hu; cases hu
   ·intro k' e' hne he
    cases k' with
    | inr y => exact he
    | inl y =>
     have : y ≠ k := fun e => hne (by rw [e])
     simpa [this] using he
   ·intro e' he; simp at he
   ·rintro i o' u (hT | hn) _ _ hu
    ·rw [hno i hT] at hu; cases hu
    ·rw [hst.fresh hn] at hu; cases hu
  exact ⟨_, h, _, rfl, Hle.refl h, hst', ⟨trivial, trivial⟩, trivial, jVz.2 rfl⟩
end
end Go.KB
