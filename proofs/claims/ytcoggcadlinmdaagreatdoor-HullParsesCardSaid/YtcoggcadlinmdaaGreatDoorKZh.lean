/- Functions of Go's library on words and numbers, by the kit's contracts; error values. For a seat whose row lists variables. An iterator that holds its own text: what strings.SplitAfterSeq hands back. A strings.Builder as an entry: its own block and its row of bytes, and nothing else. A function that defers a closure of which the captured variables are known: nothing is to be recovered as it returns. No condition. -/
import Derived.Laws.BytesArg
import Derived.Test.YtcoggcadlinmdaaGreatDoorKLib
import Derived.WideLaws
import Derived.Lib.ItoaNum
import Derived.Lib.AtoiAll
import Derived.Lib.Join
import Derived.Lib.Split
import Derived.Lib.SplitLaws
import Derived.Sort.Grow
import Derived.Shelf.Strings.BuilderK
import Derived.RecoverIn
namespace Go.KB
open RowKit Go.Proofs
variable {P : Program} {α β : Type}
def Rep.err : Rep Bool where
 sz := 1
 agg := false
 rel := fun _ cs x => ∃ v, cs = [v] ∧ ((x = false ∧ v = .nilIface) ∨ (x = true ∧ ∃ t p, v = .iface t p))
 zero := false
 zc := [.nilIface]
 one := fun _ => rfl
 len := fun ⟨v, e, _⟩ => by rw [e]; rfl
 flat := fun ⟨v, e, k⟩ c hc => by
  rw [e] at hc; simp at hc; rw [hc]
  rcases k with ⟨_, rfl⟩ | ⟨_, t, p, rfl⟩ <;> rfl
 mono := fun _ e => e
 zrel := fun _ => ⟨_, rfl, .inl ⟨rfl, rfl⟩⟩
theorem qK0 {h : H} : Rep.err.val h .nilIface false := ⟨[.nilIface], ⟨_, rfl, .inl ⟨rfl, rfl⟩⟩, rfl⟩
theorem jT8 {h : H} {t : TypeId} {p : Value} : Rep.err.val h (.iface t p) true := ⟨[.iface t p], ⟨_, rfl, .inr ⟨rfl, t, p, rfl⟩⟩, rfl⟩
theorem St.belowG {κ : Type} {B : Base} {h : H} {L : κ → Option Ent} {w w' : World} (s : St B h L w) (hb : RowKit.Below w.heap.size w w') : St B h L w' := s.below hb (fun e => e.elim)
section
variable {o : Oper} {N : List (Nat × jJd)}
theorem qGn {h : H} {v : Value} {x : Bool} : Rep.err.val h v x ↔ (x = false ∧ v = .nilIface) ∨ (x = true ∧ ∃ t p, v = .iface t p) :=
 ⟨fun ⟨_, ⟨_, e, k⟩, e'⟩ => by subst e e'; exact k, fun k => ⟨[v], ⟨_, rfl, k⟩, rfl⟩⟩
theorem qQ4 {T T' : TypeId} {x : Operand} {q : Bool} (hT : P.underlying T = some (.interface (P.methodsAt T))) (ho : o.op = .binOp .eql T x (.const .nilIface) T') (hx : jQf N x (fV Rep.err q)) : jXh P o N [] (fV Rep.bool (!q)) [] :=
 jXh.ofRun fun h a w _ n => by
  have hg : (eqGuard .eql T x (.const .nilIface) .nilIface .nilIface).run P w = .ok () w := by
   unfold eqGuard; cases x <;> rfl
  have hg2 : ∀ t p, (eqGuard .eql T x (.const .nilIface) (.iface t p) .nilIface).run P w = .ok () w := by
   intro t p; unfold eqGuard; rfl
  rcases qGn.1 (hx h a n) with ⟨rfl, hv⟩ | ⟨rfl, t, p, hv⟩
  ·exact ⟨.bool true, by simp only [execOp, ho, hv, show a.eval (.const .nilIface) = .nilIface from rfl, hg, Sem.run_bind, Result.andThen_ok, Sem.run_pure, run_eql_nil_nil w T hT], jZz.2 rfl⟩
  ·exact ⟨.bool false, by simp only [execOp, ho, hv, show a.eval (.const .nilIface) = .nilIface from rfl, hg2, Sem.run_bind, Result.andThen_ok, Sem.run_pure, run_eql_held_nil w T t p hT], jZz.2 rfl⟩
end
def inI (n : Int) : Bool := decide (-9223372036854775808 ≤ n) && decide (n ≤ 9223372036854775807)
theorem qXw {n : Int} (h : inI n = true) : -9223372036854775808 ≤ n ∧ n ≤ 9223372036854775807 := by simpa [inI] using h
def qYa (n : Int) : Option Str := bif inI n then some (Lib.itoa n) else none
theorem qKx {f : FuncId} {n : Int} {r : Str} (H : qYa n = some r)
  (hc : ∀ w, GF w → -9223372036854775808 ≤ n → n ≤ 9223372036854775807 → Calls P f #[.int .i64 n] w fun e w' => e = .returned (.string ⟨(Lib.itoa n).toArray⟩) ∧ ∃ k os, w' = Sort.grow (w.drewN k) os) : FnOk P f [fV (Rep.int .i64) n] (fV Rep.str r) := by
 unfold qYa at H
 cases hi : inI n with
 | false => rw [hi] at H; cases H
 | true =>
  rw [hi] at H; cases H
  intro κ B L h w vs hst hl hargs
  obtain ⟨a, rfl⟩ : ∃ a, vs = [a] := by
   match vs, hl with
   | [a], _ => exact ⟨a, rfl⟩
  have ha := jQ0.1 (hargs 0 _ a rfl rfl)
  subst ha
  refine (hc w (qWg hst.gok.2) (qXw hi).1 (qXw hi).2).mono ?_
  rintro e w' ⟨rfl, k, os, rfl⟩
  exact ⟨_, h, rfl, Hle.refl h, hst.belowG ⟨rfl, rfl, rfl, by simp [Sort.grow, World.drewN], fun j hj => by simp only [Sort.grow, World.drewN]; exact Array.getElem?_append_left hj⟩, jWg.2 rfl⟩
def qKr (s : Str) : Option (Int × Bool) := bif Nat.ble s.length 281474976710656 then some (match Lib.atoiAll s with | Lib.NumEnd.ok v => (v, false) | Lib.NumEnd.range => (Lib.atoiSat s, true) | _ => (0, true)) else none
theorem qKm {f : FuncId} {s : Str} {r : Int × Bool} (H : qKr s = some r)
  (h1 : ∀ w v, s.length ≤ 9223372036854775806 → Lib.atoiAll s = .ok v → Calls P f #[.string ⟨s.toArray⟩] w fun e w' => e = .returned (.tuple #[.int .i64 v, .nilIface]) ∧ Below w.heap.size w w')
  (h2 : ∀ w, GF w → s.length ≤ 281474976710656 → Lib.atoiAll s = Lib.NumEnd.syntax → Calls P f #[.string ⟨s.toArray⟩] w fun e w' => (∃ t p, e = .returned (.tuple #[.int .i64 0, .iface t p])) ∧ Below w.heap.size w w')
  (h3 : ∀ w, GF w → s.length ≤ 281474976710656 → Lib.atoiAll s = .range → Calls P f #[.string ⟨s.toArray⟩] w fun e w' => (∃ t p, e = .returned (.tuple #[.int .i64 (Lib.atoiSat s), .iface t p])) ∧ Below w.heap.size w w') :
  FnOk P f [fV Rep.str s] (fT2 (fV (Rep.int .i64) r.1) (fV Rep.err r.2)) := by
 unfold qKr at H
 cases hi : Nat.ble s.length 281474976710656 with
 | false => rw [hi] at H; cases H
 | true =>
  rw [hi] at H; cases H
  rw [Nat.ble_eq] at hi
  intro κ B L h w vs hst hl hargs
  obtain ⟨a, rfl⟩ : ∃ a, vs = [a] := by
   match vs, hl with
   | [a], _ => exact ⟨a, rfl⟩
  have ha := jWg.1 (hargs 0 _ a rfl rfl)
  subst ha
  match hA : Lib.atoiAll s with
  | Lib.NumEnd.ok v =>
   refine (h1 w v (by omega) hA).mono ?_
   rintro e w' ⟨rfl, hb⟩
   exact ⟨_, h, rfl, Hle.refl h, hst.belowG hb, _, _, rfl, jQ0.2 rfl, qK0⟩
  | Lib.NumEnd.syntax =>
   refine (h2 w (qWg hst.gok.2) hi hA).mono ?_
   rintro e w' ⟨⟨t, p, rfl⟩, hb⟩
   exact ⟨_, h, rfl, Hle.refl h, hst.belowG hb, _, _, rfl, jQ0.2 rfl, jT8⟩
  | Lib.NumEnd.range =>
   refine (h3 w (qWg hst.gok.2) hi hA).mono ?_
   rintro e w' ⟨⟨t, p, rfl⟩, hb⟩
   exact ⟨_, h, rfl, Hle.refl h, hst.belowG hb, _, _, rfl, jQ0.2 rfl, jT8⟩
def bA (s : Str) : ByteArray := ⟨s.toArray⟩
def jSh (s sep : Str) : List Str := (Lib.splitB (bA sep) 0 (Lib.countB (bA s) (bA sep)) (bA s)).map (·.data.toList)
def qXj (s sep : Str) : Option (List Str) := bif Nat.blt s.length 4294967281 && Nat.ble 1 sep.length then some (jSh s sep) else none
theorem qVd {f : FuncId} {s sep : Str} {r : List Str} {t : TypeId} (H : qXj s sep = some r)
  (hc : ∀ w, GF w → (bA s).size < 4294967281 → 1 ≤ (bA sep).size → Calls P f #[.string (bA s), .string (bA sep)] w fun e w' =>
   e = .returned (.slice (some ⟨w.heap.size, 0, none⟩) (Lib.countB (bA s) (bA sep) + 1) (Lib.countB (bA s) (bA sep) + 1)) ∧ w' = w.alloc (.cells ((Lib.splitB (bA sep) 0 (Lib.countB (bA s) (bA sep)) (bA s)).map Value.string).toArray t)) :
  FnOk P f [fV Rep.str s, fV Rep.str sep] (fV (Rep.slice Rep.str) r) := by
 unfold qXj at H
 cases hi : Nat.blt s.length 4294967281 && Nat.ble 1 sep.length with
 | false => rw [hi] at H; cases H
 | true =>
  rw [hi] at H; cases H
  simp only [Bool.and_eq_true, Nat.ble_eq, Nat.blt_eq] at hi
  intro κ B L h w vs hst hl hargs
  obtain ⟨a, b, rfl⟩ : ∃ a b, vs = [a, b] := by
   match vs, hl with
   | [a, b], _ => exact ⟨a, b, rfl⟩
  have ha := jWg.1 (hargs 0 _ a rfl rfl)
  have hb := jWg.1 (hargs 1 _ b rfl rfl)
  subst ha hb
  have h1 : 1 ≤ (bA sep).size := by simpa [bA, ByteArray.size] using hi.2
  refine (hc w (qWg hst.gok.2) (by simpa [bA, ByteArray.size] using hi.1) h1).mono ?_
  rintro e w' ⟨rfl, rfl⟩
  have hlen := Lib.splitB_all (bA sep) h1 0 _ (bA s) rfl
  have hall := hst.allocP ((Lib.splitB (bA sep) 0 (Lib.countB (bA s) (bA sep)) (bA s)).map Value.string) t
  have hl2 : (jSh s sep).length = Lib.countB (bA s) (bA sep) + 1 := by unfold jSh; rw [List.length_map, hlen]
  suffices key : jD0 Rep.str (hadd h w.heap.size ((Lib.splitB (bA sep) 0 (Lib.countB (bA s) (bA sep)) (bA s)).map Value.string)) (.slice (some ⟨w.heap.size, 0, none⟩) (Lib.countB (bA s) (bA sep) + 1) (Lib.countB (bA s) (bA sep) + 1)) (jSh s sep) from
   ⟨_, _, rfl, hall.1, hall.2, [.slice (some ⟨w.heap.size, 0, none⟩) (Lib.countB (bA s) (bA sep) + 1) (Lib.countB (bA s) (bA sep) + 1)], ⟨_, rfl, key⟩, rfl⟩
  refine .inr ⟨w.heap.size, 0, Lib.countB (bA s) (bA sep) + 1, by rw [hl2], Nat.le_of_eq hl2, ?_, fun e => absurd e (by decide)⟩
  intro i x hx
  unfold jSh at hx
  rw [List.getElem?_map] at hx
  cases hy : (Lib.splitB (bA sep) 0 (Lib.countB (bA s) (bA sep)) (bA s))[i]? with
  | none => rw [hy] at hx; cases hx
  | some y =>
   rw [hy] at hx; cases hx
   refine ⟨[.string y], by show _ = _; simp, fun j v hj => ?_⟩
   cases j with
   | zero =>
    cases hj
    rw [show Rep.str.sz = 1 from rfl, Nat.zero_add, Nat.mul_one, Nat.add_zero]
    have hi : i < ((Lib.splitB (bA sep) 0 (Lib.countB (bA s) (bA sep)) (bA s)).map Value.string).length := by rw [List.length_map]; exact (List.getElem?_eq_some_iff.1 hy).1
    rw [jH3 hi, ← List.getElem?_eq_getElem hi, List.getElem?_map, hy]; rfl
   | succ j => cases hj
def jAx (s sep : Str) : Option Int := bif Nat.blt s.length 4294967281 then some (Lib.index s sep) else none
theorem qZ9 {f : FuncId} {s sep : Str} {r : Int} (H : jAx s sep = some r)
  (hc : ∀ w, GF w → (bA s).size < 4294967281 → Calls P f #[.string (bA s), .string (bA sep)] w fun e w' => e = .returned (.int .i64 (Lib.index s sep)) ∧ w' = w) :
  FnOk P f [fV Rep.str s, fV Rep.str sep] (fV (Rep.int .i64) r) := by
 unfold jAx at H
 cases hi : Nat.blt s.length 4294967281 with
 | false => rw [hi] at H; cases H
 | true =>
  rw [hi] at H; cases H
  rw [Nat.blt_eq] at hi
  intro κ B L h w vs hst hl hargs
  obtain ⟨a, b, rfl⟩ : ∃ a b, vs = [a, b] := by
   match vs, hl with
   | [a, b], _ => exact ⟨a, b, rfl⟩
  have ha := jWg.1 (hargs 0 _ a rfl rfl)
  have hb := jWg.1 (hargs 1 _ b rfl rfl)
  subst ha hb
  refine (hc w (qWg hst.gok.2) (by simpa [bA, ByteArray.size] using hi)).mono ?_
  rintro e w' ⟨rfl, rfl⟩
  exact ⟨_, h, rfl, Hle.refl h, hst, jQ0.2 rfl⟩
def strI (l : List Int) : Str := l.map fun n => UInt8.ofNat n.toNat
theorem qXs {P : Program} {o : Oper} {N : List (Nat × jJd)} {S T E : TypeId} {x : Operand} {l : List Int} (hS : P.underlying S = some (.slice E)) (hT : P.underlying T = some .string) (hE : P.underlying E = some (.int .u8)) (ho : o.op = .convert S T x) (hx : jQf N x (fV (Rep.slice (Rep.int .u8)) l)) :
  jXh P o N [] (fV Rep.str (strI l)) [] :=
 jXh.ofRun fun h a w hst q => by
  refine ⟨.string ⟨(strI l).toArray⟩, ?_, jWg.2 rfl⟩
  simp only [execOp, ho, Sem.run_bind]
  rcases jZt.1 (hx h a q) with ⟨⟨base, hv⟩, rfl⟩ | ⟨b, off, cap, hv, hcap, hc⟩
  ·rw [hv]
   cases base with
   | none => rw [run_convert_bytes_nil w S E hS hE 0 0 T hT]; rfl
   | some ad => rw [run_convert_bytes_string w S T E _ _ _ hS hE hT, run_bytesToString w ad 0 0 [] (by rfl)]; rfl
  ·rw [hv, run_convert_bytes_arg w S E hS hE b off l.length cap l rfl (fun i hi => by
    obtain ⟨cs, h1, h2⟩ := hc.1 i l[i] (List.getElem?_eq_getElem hi)
    cases h1
    have := h2 0 _ rfl
    have e := hst this
    simpa [Rep.int, Rep.scalar, List.getElem?_eq_getElem hi] using e) T hT]
   rfl
end Go.KB
namespace Go.KB
variable {P : Program} {o : Oper} {N : List (Nat × jJd)}
def qV1 (b : Nat) (c0 c2 : Value) (T : TypeId) (s sep : Str) (n : Int) : Ent where
 claims := [(b, 0)]
 ok := fun h m => (∃ cs, m b = some (.cells cs.toArray T (0, 0)) ∧ Rep.str.rel h cs s) ∧ (jQv Rep.str sep).p h undef c0 ∧ (jQv (Rep.int .i64) n).p h undef c2
 mono := by
  intro h h' m hl ⟨⟨cs, e, k⟩, k0, k2⟩
  exact ⟨⟨cs, e, Rep.str.mono hl k⟩, (jQv _ _).mono hl k0, (jQv _ _).mono hl k2⟩
 frame := by
  intro h m m' hm ⟨⟨cs, e, k⟩, k0, k2⟩
  exact ⟨⟨cs, by rw [hm (b, 0) (by simp)]; exact e, k⟩, k0, k2⟩
def qZs (f : FuncId) (T : TypeId) (s sep : Str) (n : Int) : jZr := fun v e => ∃ b c0 c2, v = .func (.func f) #[] #[c0, .pointer (some ⟨b, 0, none⟩), c2] ∧ e = qV1 b c0 c2 T s sep n
theorem qKb {f : FuncId} {T : TypeId} {s sep : Str} {n : Int} {t0 t1 t2 d : Nat} (hsd : Nat.beq t1 d = false) (hd : o.dst = some d) (ho : o.op = .makeFunc (.func f) #[] #[.tmp t0, .tmp t1, .tmp t2])
  (h0 : jQf N (.tmp t0) (jQv Rep.str sep)) (h2 : jQf N (.tmp t2) (jQv (Rep.int .i64) n)) : jXh P o N [(t1, jJg T Rep.str s)] jJd.triv [(t1, none), (d, some (qZs f T s sep n))] := by
 intro κ B F L h a w hst hn hk hdn next Q hnext _
 obtain ⟨e, hL, b, hv, rfl⟩ := hk.1
 have hne : t1 ≠ d := fun x => by rw [jWp.2 x] at hsd; cases hsd
 have k0 := h0 h a hn
 have k2 := h2 h a hn
 have hok := (hst.own (k := Sum.inl t1) hL).2
 have hst2 := hst.swap (e' := qV1 b (a.eval (.tmp t0)) (a.eval (.tmp t2)) T s sep n) hL (fun c hc => ⟨c, hc, rfl, Nat.le_refl _⟩) ⟨hok, k0, k2⟩
 unfold Oper.wpK
 have : (execOp a.eval o).run P w = .ok (.value (.func (.func f) #[] #[a.eval (.tmp t0), .pointer (some ⟨b, 0, none⟩), a.eval (.tmp t2)])) w := by
  have hv' : a.eval (.tmp t1) = .pointer (some ⟨b, 0, none⟩) := hv
  simp [execOp, ho, Instr.makeFunc, hv']
 rw [this]
 refine hnext _ h w _ (Hle.refl h) trivial (hst2.mv t1 d) ?_
 rw [hd]
 exact jSp (L0 := L) (fun k hk => by simp [set1, hk]) hne jHt ⟨b, _, _, by rw [jQc (hdn d hd)], rfl⟩
section
variable {κ : Type} {B : Base} {h0 : H} {Γ : Ctx} {Λ : Own} {F : κ → Option Ent} {n : Nat} {a : Act} {w : World}
theorem At.seqGhost {f : FuncId} {T : TypeId} {s sep : Str} {m : Int} (t g : Nat) (hsg : Nat.beq t g = false) (hAt : At B h0 Γ Λ F n a w) (hs : Λ t = some (qZs f T s sep m)) :
  ∃ u, At B h0 (fun k => bif Nat.beq t k then qUy f [jQv Rep.str sep, fIs u, jQv (Rep.int .i64) m] else Γ k) (fun k => bif Nat.beq g k then some (atV (jQm T Rep.str s []) u) else bif Nat.beq t k then none else Λ k) F n a w := by
 obtain ⟨h, L, hle, hst, hOw, hsat, hsz, hdf⟩ := hAt
 obtain ⟨e, hL, b, c0, c2, hv, rfl⟩ := hOw t _ hs
 have hne : t ≠ g := fun x => by rw [jWp.2 x] at hsg; cases hsg
 obtain ⟨hb, k0, k2⟩ := (hst.own (k := Sum.inl t) hL).2
 obtain ⟨cs, hb1, hb2⟩ := hb
 have hst2 := hst.swap (e' := jWk b T Rep.str s []) hL (fun c hc => ⟨c, by simpa [jWk, qV1, qYh] using hc, rfl, Nat.le_refl _⟩) ⟨⟨cs, hb1, hb2, fun u hu => by cases hu⟩, fun u hu => by cases hu⟩
 refine ⟨.pointer (some ⟨b, 0, none⟩), h, mv (set1 L t (jWk b T Rep.str s [])) t g, hle, hst2.mv t g, ?_, ?_, hsz, hdf⟩
 ·intro k q' hq'
  cases hk : Nat.beq g k with
  | true =>
   simp only [hk, cond_true] at hq'; cases hq'; rw [jWp] at hk; subst hk
   exact ⟨jWk b T Rep.str s [], by simp [mv, set1], b, [], rfl, trivial, ⟨List.Pairwise.nil, fun u hu => by cases hu⟩, rfl⟩
  | false =>
   simp only [hk, cond_false] at hq'
   cases hk2 : Nat.beq t k with
   | true => simp only [hk2, cond_true] at hq'; cases hq'
   | false =>
    simp only [hk2, cond_false] at hq'
    have n1 : k ≠ g := fun x => by rw [jWp.2 x.symm] at hk; cases hk
    have n2 : k ≠ t := fun x => by rw [jWp.2 x.symm] at hk2; cases hk2
    obtain ⟨e', h1, h2⟩ := hOw k q' hq'
    exact ⟨e', by simp [mv, set1, n1, n2, h1], h2⟩
 ·intro k
  cases hk : Nat.beq t k with
  | true =>
   simp only [hk, cond_true]
   rw [jWp] at hk; subst hk
   show ∃ cap : List Value, a.gt t = .func (.func f) #[] cap.toArray ∧ _
   refine ⟨[c0, .pointer (some ⟨b, 0, none⟩), c2], hv, rfl, fun j gg u hg hu => ?_⟩
   match j, hg, hu with
   | 0, hg, hu => cases hg; cases hu; exact k0
   | 1, hg, hu => cases hg; cases hu; rfl
   | 2, hg, hu => cases hg; cases hu; exact k2
  | false => simp only [hk, cond_false]; exact hsat k
end
end Go.KB
namespace Go.KB
open RowKit Go.Proofs Go.Shelf
section
variable {P : Program} {w : World}
end
section
variable {P : Program} {ρ : Ren}
def IsB (T e b : Nat) (v : Value) (bs : List Value) (w : World) : Prop :=
 (∃ p, (p = .pointer none ∨ p = .pointer (some ⟨b, 0, none⟩)) ∧ w.heap[b]? = some (.cells #[p, v] T (0, 0))) ∧ w.ownsRowF 0 e 1 v bs.length bs ∧ v.ownBlock ≠ some b
theorem IsB.lt {T e b : Nat} {v : Value} {bs : List Value} {w : World} (h : IsB T e b v bs w) : b < w.heap.size := by
 obtain ⟨⟨p, _, hb⟩, _⟩ := h
 exact (Array.getElem?_eq_some_iff.1 hb).1
set_option maxHeartbeats 2000000 in
set_option maxRecDepth 100000 in
end
theorem IsB.congr {T e b : Nat} {v : Value} {bs : List Value} {w w' : World} (h : IsB T e b v bs w) (hw : ∀ i, (i = b ∨ v.ownBlock = some i) → w'.heap[i]? = w.heap[i]?) : IsB T e b v bs w' := by
 obtain ⟨⟨p, hp, hb⟩, ho, hn⟩ := h
 refine ⟨⟨p, hp, by rw [hw b (.inl rfl)]; exact hb⟩, ⟨ho.1, ho.2.imp id ?_⟩, hn⟩
 rintro ⟨g, cap, cur, fz, rfl, h0, hg, hr⟩
 exact ⟨g, cap, cur, fz, rfl, h0, by rw [hw g (.inr rfl)]; exact hg, hr⟩
section
variable {P : Program} {o : Oper} {N : List (Nat × jJd)}
end
end Go.KB
namespace Go.KB
variable {P : Program} {κ : Type} {B : Base} {h0 : H} {Γ : Ctx} {Λ : Own} {F : κ → Option Ent} {n : Nat} {a : Act} {w : World}
def jAg (f : FuncId) (vs : List Value) : Deferred := { target := .fn (.func f) vs.toArray, args := #[] }
def Caps (Γ : Ctx) : List Operand → List Value → Prop
 | x :: xs, v :: vs => (∃ s, x = .tmp s ∧ Γ s = fIs v) ∧ Caps Γ xs vs
 | [], [] => True
 | _, _ => False
theorem Caps.eval {h : H} {a : Act} (hs : Sat Γ h a) : ∀ {xs : List Operand} {vs : List Value}, Caps Γ xs vs → xs.map a.eval = vs
 | [], [], _ => rfl
 | x :: xs, v :: vs, ⟨⟨s, hx, hv⟩, hr⟩ => by
  have := hs s
  rw [hv] at this
  have e : a.gt s = v := this
  subst hx
  simp only [List.map_cons, Caps.eval hs hr]
  exact congrArg (· :: vs) e
 | [], _ :: _, k => k.elim
 | _ :: _, [], k => k.elim
def qY8 (d : Nat) : List (Nat × jJd) → Bool
 | [] => true
 | q :: l => (match q.2.dep with | none => true | some e => !Nat.beq e d) && qY8 d l
theorem qQd {d : Nat} : ∀ {l : List (Nat × jJd)}, qY8 d l = true → ∀ s, (mkG l s).dep ≠ some d
 | [], _, s => by simp [mkG, lkF, jJd.triv]
 | q :: l, h, s => by
  rw [qY8, Bool.and_eq_true] at h
  simp only [mkG, lkF]
  cases Nat.beq q.1 s with
  | true =>
   intro e
   have h1 := h.1
   simp only [cond_true] at e
   rw [e] at h1
   simp at h1
  | false => exact qQd h.2 s
theorem qQz {id f d : Nat} {xs : Array Operand} {vs : List Value} {o1 o2 : Oper} {l : List (Nat × jJd)} {Q : Exit → Act → World → Prop} (hAt : At B h0 (mkG l) Λ F n a w) (h1 : o1.op = .makeFunc (.func f) #[] xs) (hd1 : o1.dst = some d) (hg1 : o1.guard = none)
  (h2 : o2.op = .defer { callee := .value (.tmp d), args := #[], argTypes := #[] }) (hd2 : o2.dst = none) (hg2 : o2.guard = none) (hdn : d < n) (hl : Λ d = none) (hno : qY8 d l = true) (hm : lkF l d = jJd.triv) (hc : Caps (mkG l) xs.toList vs)
  (hk : ∀ a w, At (B.d (jAg f vs)) h0 (mkG l) Λ F n a w → Q .normal a w) : (Code.region id #[o1, o2] false).wpK none P Q a w := by
 refine qXv.2 (wp_region ?_)
 obtain ⟨h, L, hle, hst, hOw, hsat, hsz, hdf⟩ := hAt
 have hx : xs.map a.eval = vs.toArray := by
  have := Caps.eval hsat hc
  apply Array.ext'
  simpa using this
 have e1 : (execOp a.eval o1).run P w = .ok (.value (.func (.func f) #[] vs.toArray)) w := by
  have hm : (Instr.makeFunc (.func f) #[] vs.toArray).run P w = .ok (.func (.func f) #[] vs.toArray) w := rfl
  simp only [execOp, h1, hx, Array.map_empty, Sem.run_bind, hm, Result.andThen_ok, Sem.run_pure]
 have e2 : (execOp (a.put (some d) (.func (.func f) #[] vs.toArray)).eval o2).run P w = .ok (.defer (jAg f vs)) w := by
  have : (a.put (some d) (.func (.func f) #[] vs.toArray)).eval (.tmp d) = .func (.func f) #[] vs.toArray := jQc (by rw [hsz]; exact hdn)
  simp only [execOp, h2, resolve, this, Deferred.ofValue]
  simp [jAg, Sem.run_pure]
 show wpOps P #[o1, o2] Q [0, 1] a w
 simp only [wpOps, List.getElem?_toArray, List.getElem?_cons_zero, List.getElem?_cons_succ, Region.wanted, hg1, hg2, Oper.wp, if_true]
 rw [e1]
 refine .inl ?_
 rw [Oper.upon_value, hd1]
 refine .inl ?_
 rw [e2, Oper.upon_defer, hd2]
 refine hk _ _ ⟨h, L, hle, hst.toD, ?_, ?_, ?_, ?_⟩
 ·intro s q hq
  obtain ⟨e, h3, h4⟩ := hOw s q hq
  refine ⟨e, h3, ?_⟩
  have : s ≠ d := fun x => by rw [x, hl] at hq; cases hq
  show q ((a.put (some d) _).gt s) e
  rw [jBu this]; exact h4
 ·intro s
  by_cases hs : s = d
  ·subst hs; show (lkF l s).at h _ s; rw [hm]; exact trivial
  ·have := hsat s
   unfold jJd.at at this ⊢
   have e : (mkG l s).dv (({ a.put (some d) (.func (.func f) #[] vs.toArray) with defers := jAg f vs :: (a.put (some d) (.func (.func f) #[] vs.toArray)).defers } : Act).put none undef) = (mkG l s).dv a := by
    unfold jJd.dv
    cases hq : (mkG l s).dep with
    | none => rfl
    | some d' =>
     have : d' ≠ d := fun x => qQd hno s (by rw [hq, x])
     exact jBu this
   rw [e]
   show (mkG l s).p h _ ((a.put (some d) _).gt s)
   rw [jBu hs]; exact this
 ·show (a.put (some d) _).tmps.size = n
  rw [size_put]; exact hsz
 ·show jAg f vs :: (a.put (some d) _).defers = _
  rw [jPz, hdf]; rfl
theorem retDf {fn : Func} {R : Ending → World → Prop} {d : Deferred} (hAt : At (B.d d) h0 Γ Λ F n a w) (hi : ∀ w, qGg P d w)
  (hk : ∀ (a : Act) (w : World), At B h0 Γ Λ F n a w → B.df = [] → jB2 P fn R .ret a w) : B.df = [] → jB2 P fn R .ret a w := by
 intro hB
 obtain ⟨h, L, hle, hst, hOw, hsat, hsz, hdf⟩ := hAt
 have hdf' : a.defers = [d] := by rw [hdf]; show d :: B.df = _; rw [hB]
 rcases hk { a with defers := [] } w ⟨h, L, hle, hst.ofD, fun s q hq => hOw s q hq, fun s => hsat s, hsz, hB.symm⟩ hB with ⟨_, v, h1, h2⟩ | ⟨D', w', h1, _⟩ | ⟨d', h1, _⟩
 ·exact .inr (.inr ⟨d, hdf', hi w, v, h1, h2⟩)
 ·cases h1
 ·cases h1
end Go.KB
