/- A strings.Builder as an entry: its own block and its row of bytes, and nothing else. No condition. -/
import Derived.Test.YtibkeigeifabmaaGreatDoorKLc
import Derived.Shelf.Strings.BuilderK
namespace Go.KB
open RowKit Go.Proofs Go.Shelf
section
variable {P : Program} {w : World}
theorem ownsF0 {base e n : Nat} {v : Value} {xs : List Value} (h : w.ownsRowF base e 1 v n xs) : w.ownsRowF 0 e 1 v n xs :=
  ⟨h.1, h.2.imp id fun ⟨g, cap, cur, fz, h1, _, h3⟩ => ⟨g, cap, cur, fz, h1, Nat.zero_le _, h3⟩⟩
theorem qH3 (t u ty e : TypeId) (i : TypeInfo) (ht : P.underlying t = some (.slice e)) (hu : P.underlying u = some .string) (hi : P.info? e = some i) (hz : i.zero = some (.int .u8 0)) (hsize : i.size = 1) (hby : i.bytes = 1)
    (v : Value) (n : Nat) (xs : List Value) (hown : w.ownsRowF 0 e 1 v n xs) (s : ByteArray) (hbytes : n + s.size ≤ 140737488355328) :
    ∃ v' w', (Builtin.append_ #[t, u] ty #[v, .string s]).run P w = .ok v' w' ∧ w'.ownsRowF 0 e 1 v' (n + s.size) (xs ++ Lib.strCells s) ∧ w.grownBy w' v.ownBlock ∧ (v'.ownBlock = v.ownBlock ∨ ∃ k, v'.ownBlock = some k ∧ w.heap.size ≤ k) := by
  have h63 : n + s.size ≤ maxLen := by unfold maxLen; omega
  rcases hown.2 with ⟨rfl, rfl⟩ | ⟨g, cap, cur, fz, rfl, hbg, hg, hfz, hnc, hcm, hcs, htake⟩
  · obtain ⟨v', w', h1, h2, h3, _⟩ := Lib.run_append_own_string (P := P) w w.heap.size t u ty e i ht hu hi hz hsize hby (.slice none 0 0) 0 xs ⟨hown.1, .inl ⟨rfl, rfl⟩⟩ s h63 hbytes (Nat.le_refl _)
    have h2' := World.ownsRowF_of h2
    refine ⟨v', w', h1, ownsF0 h2', h3, ?_⟩
    rcases h2'.2 with ⟨rfl, _⟩ | ⟨g, _, _, _, rfl, hb, _⟩
    · exact .inl rfl
    · exact .inr ⟨g, rfl, hb⟩
  · obtain ⟨v', w', h1, h2, h3, _⟩ := Lib.run_append_own_stringF (P := P) w 0 t u ty e i ht hu hi hz hsize hby _ n xs hown s h63 hbytes (Nat.zero_le _)
    refine ⟨v', w', h1, h2, h3, ?_⟩
    by_cases hroom : n + s.size ≤ cap
    · have hr := Lib.run_append_room_stringF (P := P) w t u ty e i ht hu hi hsize g n cap cur fz hg (by simpa using hfz) s hroom (by rw [hcs]; omega)
      rw [hr] at h1
      cases h1; exact .inl rfl
    · have hxl : xs.length = n := by simpa using hown.1
      have hr := Lib.run_append_grow_string (P := P) w t u ty e i (.int .u8 0) ht hu hi hz ⟨g, 0, none⟩ n cap xs (by rw [hsize]; simpa using hxl) (hown.cells (g := g) rfl) s (by omega) (by omega) (by rw [hby]; exact growslice_fits (by omega) (by omega))
      rw [hr] at h1
      cases h1; exact .inr ⟨w.heap.size, rfl, Nat.le_refl _⟩
theorem qJa {ops : Array Oper} {rest : List Oper} {o : Oper} {a : Act} {Q : Exit → Act → World → Prop} (hgd : o.guard = none) (sl x : Operand) (t u : TypeId)
    (ho : o.op = .call { callee := .builtin .append, args := #[sl, x], argTypes := #[t, u] }) (e : TypeId) (i : TypeInfo) (ht : P.underlying t = some (.slice e)) (hu : P.underlying u = some .string) (hi : P.info? e = some i) (hz : i.zero = some (.int .u8 0))
    (hsize : i.size = 1) (hby : i.bytes = 1) (v : Value) (n : Nat) (xs : List Value) (hs : a.eval sl = v) (hown : w.ownsRowF 0 e 1 v n xs) (s : ByteArray) (hx : a.eval x = .string s) (hbytes : n + s.size ≤ 140737488355328)
    (h : ∀ v' w', w'.ownsRowF 0 e 1 v' (n + s.size) (xs ++ Lib.strCells s) → w.grownBy w' v.ownBlock → (v'.ownBlock = v.ownBlock ∨ ∃ k, v'.ownBlock = some k ∧ w.heap.size ≤ k) → wpList P ops Q rest (a.put o.dst v') w') : wpList P ops Q (o :: rest) a w := by
  refine wpList_plain hgd fun K hK => ?_
  obtain ⟨v', w', hr, h2, h3, h4⟩ := qH3 t u o.type e i ht hu hi hz hsize hby v n xs hown s hbytes
  unfold Oper.wp execOp
  simp only [ho, resolve, invoke, builtin, Sem.run_bind, Sem.run_pure, Result.andThen_ok, List.map_toArray, List.map_cons, List.map_nil, hs, hx, hr]
  exact hK _ _ (h v' w' h2 h3 h4)
end
section
variable {P : Program} {ρ : Ren}
/- a builder: its address or nil, its slice -/
def IsB (T e b : Nat) (v : Value) (bs : List Value) (w : World) : Prop :=
  (∃ p, (p = .pointer none ∨ p = .pointer (some ⟨b, 0, none⟩)) ∧ w.heap[b]? = some (.cells #[p, v] T (0, 0))) ∧ w.ownsRowF 0 e 1 v bs.length bs ∧ v.ownBlock ≠ some b
structure FrB (b : Nat) (k : Option Nat) (w w' : World) : Prop where
  os : w'.os = w.os
  tape : w'.tape = w.tape
  output : w'.output = w.output
  size : w.heap.size ≤ w'.heap.size
  block : ∀ i, i < w.heap.size → i ≠ b → some i ≠ k → w'.heap[i]? = w.heap[i]?
theorem IsB.lt {T e b : Nat} {v : Value} {bs : List Value} {w : World} (h : IsB T e b v bs w) : b < w.heap.size := by
  obtain ⟨⟨p, _, hb⟩, _⟩ := h
  exact (Array.getElem?_eq_some_iff.1 hb).1
theorem qYy {b g n : Nat} {w : World} : FrB b (some g) w ((w.drew).freeze ⟨g, 0, none⟩ n) := by
  unfold World.freeze
  split
  · exact ⟨rfl, rfl, rfl, Nat.le_refl _, fun _ _ _ _ => rfl⟩
  · refine ⟨rfl, rfl, rfl, by simp, fun i _ _ h2 => ?_⟩
    simp only [Array.getElem?_modify]
    rw [if_neg (fun e => h2 (by rw [← e]))]; rfl
set_option maxHeartbeats 2000000 in
set_option maxRecDepth 100000 in
theorem qZf (L : Lays.n169 P ρ) (X : Builder.Extra P ρ) (b : Nat) (v : Value) (l : List UInt8) (w : World) (h : IsB (ρ.t 72) (ρ.t 5) b v (Lib.byteCells l) w) (h0 : l ≠ []) :
    Calls P (ρ.f 169) #[.pointer (some ⟨b, 0, none⟩)] w fun e w' => e = .returned (.string ⟨l.toArray⟩) ∧ FrB b v.ownBlock w w' := by
  obtain ⟨⟨p, hp, hbk⟩, hown, hne⟩ := h
  have hl0 : l.length ≠ 0 := by simpa using h0
  rw [Lib.byteCells_length] at hown
  obtain ⟨g, cap, cur, fz, rfl, hbg, hg, hfz, hnc, hcm, hcs, htake⟩ : ∃ g cap cur fz, v = .slice (some ⟨g, 0, none⟩) l.length cap ∧ 0 ≤ g ∧ w.heap[g]? = some (.cells cur (ρ.t 5) fz) ∧ fz.2 ≤ l.length * 1 ∧ l.length ≤ cap ∧ cap ≤ maxLen ∧ cur.size = cap * 1 ∧ cur.toList.take (l.length * 1) = Lib.byteCells l := by
    rcases hown.2 with ⟨_, hz⟩ | ⟨g, cap, cur, fz, hv, r⟩
    · exact absurd hz hl0
    · exact ⟨g, cap, cur, fz, hv, r⟩
  have c1 : w.drew.cell? ⟨b, 1, none⟩ = some (.slice (some ⟨g, 0, none⟩) l.length cap) := by
    have : w.drew.heap[b]? = some (.cells #[p, .slice (some ⟨g, 0, none⟩) l.length cap] (ρ.t 72) (0, 0)) := hbk
    rw [Lib.cell_of_heap this]; rfl
  have hSD : (Builtin.unsafeSliceData_ #[(ρ.t 37)] (ρ.t 127) #[.slice (some ⟨g, 0, none⟩) l.length cap]).run P w.drew = .ok (.pointer (some ⟨g, 0, none⟩)) w.drew :=
    Lib.run_unsafeSliceData_row _ _ _ _ _ _ (by omega)
  have hUS : (Builtin.unsafeString_ #[(ρ.t 127), (ρ.t 3)] (ρ.t 9) #[.pointer (some ⟨g, 0, none⟩), .int .i64 l.length]).run P w.drew = .ok (.string ⟨l.toArray⟩) (w.drew.freeze ⟨g, 0, none⟩ l.length) := by
    refine Lib.run_unsafeString_row w.drew (ρ.t 127) (ρ.t 3) (ρ.t 9) (ρ.t 5) L.t127 X.cellsByte g cur.size (by have hg' : w.drew.heap[g]? = some (.cells cur (ρ.t 5) fz) := hg; simp [World.shape?, hg']) l h0 (by omega) (by unfold maxLen at hcm; omega) ?_
    intro j x hx
    exact hown.cells (g := g) rfl j (.int .u8 x.toNat) (by simp [Lib.byteCells, hx])
  have mixed := L.mixed
  have t72 := L.t72; have a72 := L.a72; have z72 := L.z72; have v72 := L.v72; have u72 := run_underlying L.t72
  have t70 := L.t70; have a70 := L.a70; have z70 := L.z70; have v70 := L.v70; have u70 := run_underlying L.t70
  have t37 := L.t37; have a37 := L.a37; have z37 := L.z37; have v37 := L.v37; have u37 := run_underlying L.t37
  have t127 := L.t127; have a127 := L.a127; have z127 := L.z127; have v127 := L.v127; have u127 := run_underlying L.t127
  have t3 := L.t3; have a3 := L.a3; have z3 := L.z3; have v3 := L.v3; have u3 := run_underlying L.t3
  have t9 := L.t9; have a9 := L.a9; have z9 := L.z9; have v9 := L.v9; have u9 := run_underlying L.t9
  have t5 := X.t5; have a5 := X.a5; have z5 := X.z5; have v5 := X.v5; have u5 := run_underlying X.t5
  go_enter L.f169, Body.n169_ntmps ρ
  go_wp2
  go_region_o
  all_goals (go_wp2; go_ret; exact ⟨rfl, qYy⟩)
end
/- as an entry -/
def blC (b : Nat) (v : Value) : List (Nat × Nat) := (b, 0) :: (match v.ownBlock with | some k => [(k, 0)] | none => [])
theorem jHq {b : Nat} {v : Value} {c : Nat × Nat} : c ∈ blC b v ↔ c = (b, 0) ∨ ∃ k, v.ownBlock = some k ∧ c = (k, 0) := by
  unfold blC
  cases v.ownBlock <;> simp
theorem IsB.congr {T e b : Nat} {v : Value} {bs : List Value} {w w' : World} (h : IsB T e b v bs w) (hw : ∀ i, (i = b ∨ v.ownBlock = some i) → w'.heap[i]? = w.heap[i]?) : IsB T e b v bs w' := by
  obtain ⟨⟨p, hp, hb⟩, ho, hn⟩ := h
  refine ⟨⟨p, hp, by rw [hw b (.inl rfl)]; exact hb⟩, ⟨ho.1, ho.2.imp id ?_⟩, hn⟩
  rintro ⟨g, cap, cur, fz, rfl, h0, hg, hr⟩
  exact ⟨g, cap, cur, fz, rfl, h0, by rw [hw g (.inr rfl)]; exact hg, hr⟩
def jTl (T e b : Nat) (v : Value) (x : Str) : Ent where
  claims := blC b v
  ok := fun _ m => ∃ w : World, (∀ i, (i = b ∨ v.ownBlock = some i) → w.heap[i]? = m i) ∧ IsB T e b v (Lib.byteCells x) w
  mono := fun _ k => k
  frame := by
    intro h m m' hm ⟨w, h1, h2⟩
    refine ⟨w, fun i hi => ?_, h2⟩
    rw [h1 i hi]
    rcases hi with rfl | hi
    · exact (hm (i, 0) (jHq.2 (.inl rfl))).symm
    · exact (hm (i, 0) (jHq.2 (.inr ⟨i, hi, rfl⟩))).symm
def jU2 (T e : Nat) (x : Str) : jZp := fun pv en => ∃ b v, pv = .pointer (some ⟨b, 0, none⟩) ∧ en = jTl T e b v x
section
variable {P : Program} {o : Oper} {N : List (Nat × jJm)}
theorem qGp {κ : Type} {B : Base} {h : H} {L : κ → Option Ent} {w : World} {T e b : Nat} {v : Value} {x : Str} (hst : St B h L w) {k : κ} (hL : L k = some (jTl T e b v x)) : IsB T e b v (Lib.byteCells x) w := by
  obtain ⟨w0, h1, h2⟩ := (hst.own hL).2
  exact h2.congr fun i hi => (h1 i hi).symm
theorem qY6 {T e d : Nat} (hz : ∀ w, (zeroValue T).run P w = .ok (.agg #[.pointer none, .slice none 0 0]) w) (hd : o.dst = some d) (ho : o.op = .alloc T) : jXf P o N [] jJm.triv [(d, some (jU2 T e []))] := by
  intro κ B F L h a w hst hn _ hdn next Q hnext _
  unfold Oper.wpK
  have hnv : (newVar T (.agg #[.pointer none, .slice none 0 0])).run P w = .ok ⟨w.heap.size, 0, none⟩ (w.alloc (.cells #[.pointer none, .slice none 0 0] T)) := rfl
  have : (execOp a.eval o).run P w = .ok (.value (.pointer (some ⟨w.heap.size, 0, none⟩))) (w.alloc (.cells #[.pointer none, .slice none 0 0] T)) := by
    simp [execOp, ho, Instr.alloc, hz, hnv]
  rw [this]
  refine hnext _ h _ (set1 L d (jTl T e w.heap.size (.slice none 0 0) [])) (Hle.refl h) trivial (hst.own_new _ d _ (by simp [jTl, blC, Value.ownBlock]) ⟨w.alloc (.cells #[.pointer none, .slice none 0 0] T), fun i _ => rfl, ⟨_, .inl rfl, heap_alloc_new w _⟩, ⟨rfl, .inl ⟨rfl, rfl⟩⟩, by simp [Value.ownBlock]⟩) ?_
  rw [hd]
  exact jZ6 ⟨_, _, jQa (hdn d hd), rfl⟩
theorem qKm {f : FuncId} {T e k : Nat} {x s r : Str} {sv : Value} (H : qU9 x s = some r)
    (hC : ∀ b v w, IsB T e b v (Lib.byteCells x) w → (Lib.byteCells x).length + (bA s).size ≤ 140737488355328 → Calls P f #[.pointer (some ⟨b, 0, none⟩), .string (bA s)] w fun en w' => en = .returned (.tuple #[.int .i64 (bA s).size, .nilIface]) ∧ ∃ v', IsB T e b v' (Lib.byteCells x ++ Lib.strCells (bA s)) w' ∧ FrB b v.ownBlock w w' ∧ (v'.ownBlock = v.ownBlock ∨ ∃ k, v'.ownBlock = some k ∧ w.heap.size ≤ k)) :
    jMz P f [fIs sv, fV Rep.str s] [(k, atV (jU2 T e x) sv)] [.to (atV (jU2 T e r) sv)] none (fT2 (fV (Rep.int .i64) ((List.length s : Nat) : Int)) (fV Rep.err false)) := by
  unfold qU9 at H
  cases hi : Nat.ble (x.length + s.length) 140737488355328 with
  | false => rw [hi] at H; cases H
  | true =>
    rw [hi] at H; cases H
    rw [Nat.ble_eq] at hi
    intro κ B L h w vs E hst hlen hpre hargs
    obtain ⟨a, c, rfl⟩ : ∃ a c, vs = [a, c] := by
      match vs, hlen with
      | [a, c], _ => exact ⟨a, c, rfl⟩
    have ha : a = sv := hargs 0 _ a rfl rfl
    have hc := jVl.1 (hargs 1 _ c rfl rfl)
    subst ha hc
    obtain ⟨⟨en, hE, b, v, rfl, rfl⟩, _⟩ := hpre
    have hI := qGp hst (k := Sum.inl k) hE
    have hcl := (hst.own (k := Sum.inl k) hE).1
    have hsz : (Lib.byteCells x).length + (bA s).size ≤ 140737488355328 := by simpa [Lib.byteCells_length, bA, ByteArray.size] using hi
    refine (hC b v w hI hsz).mono ?_
    rintro en w' ⟨rfl, v', hI', hf, hv'⟩
    have hno : ∀ i, (i = b ∨ v.ownBlock = some i) → ∀ o, h i o = none := fun i hi o => by
      rcases hi with rfl | hi
      · exact (hcl (i, 0) (jHq.2 (.inl rfl))).2.2 o (Nat.zero_le _)
      · exact (hcl (i, 0) (jHq.2 (.inr ⟨i, hi, rfl⟩))).2.2 o (Nat.zero_le _)
    have hlt : ∀ i, v'.ownBlock = some i → i < w'.heap.size := fun i hi => by
      rcases hI'.2.1.2 with ⟨rfl, _⟩ | ⟨g, cap, cur, fz, rfl, _, hg, _⟩
      · cases hi
      · cases hi; exact (Array.getElem?_eq_some_iff.1 hg).1
    have hst' : St B h (Sum.elim (set1 E k (jTl T e b v' (x ++ s))) L) w' := by
      refine hst.step (Sum.inl k) (fun i => i = b ∨ v.ownBlock = some i) ?_ hf.size hf.os hf.tape hf.output (fun i hi hT => hf.block i hi (fun e => hT (.inl e)) (fun e => hT (.inr e.symm))) (Hle.refl h) (fun _ _ _ _ => rfl) ?_ jY8 ?_ (fun e => e.elim) ?_
      · rintro i (rfl | hi) _
        · exact ⟨_, hE, (i, 0), jHq.2 (.inl rfl), rfl⟩
        · exact ⟨_, hE, (i, 0), jHq.2 (.inr ⟨i, hi, rfl⟩), rfl⟩
      · rintro i o' u (hT | hn) hu
        · rw [hno i hT] at hu; cases hu
        · rw [hst.fresh hn] at hu; cases hu
      · intro en hen
        rw [jY9 hen]
        refine ⟨fun c hc => ?_, w', fun _ _ => rfl, ?_⟩
        · rcases jHq.1 hc with rfl | ⟨i, hi, rfl⟩
          · exact ⟨.inr ⟨_, hE, (b, 0), jHq.2 (.inl rfl), rfl⟩, by have := hI.lt; have := hf.size; show b < _; omega, fun o' _ => hno b (.inl rfl) o'⟩
          · refine ⟨?_, hlt i hi, fun o' _ => ?_⟩
            · rcases hv' with e | ⟨k', e, hk⟩
              · exact .inr ⟨_, hE, (i, 0), jHq.2 (.inr ⟨i, by rw [← e]; exact hi, rfl⟩), rfl⟩
              · rw [hi] at e; cases e; exact .inl hk
            · rcases hv' with e | ⟨k', e, hk⟩
              · exact hno i (.inr (by rw [← e]; exact hi)) o'
              · rw [hi] at e; cases e; exact hst.fresh hk o'
        · have e : Lib.byteCells (x ++ s) = Lib.byteCells x ++ Lib.strCells (bA s) := by simp [Lib.byteCells, Lib.strCells, bA]
          rw [e]; exact hI'
      · rintro i o' u (hT | hn) _ _ hu
        · rw [hno i hT] at hu; cases hu
        · rw [hst.fresh hn] at hu; cases hu
    exact ⟨_, h, set1 E k (jTl T e b v' (x ++ s)), rfl, Hle.refl h, hst', ⟨⟨_, jYa, b, v', rfl, rfl⟩, trivial⟩, trivial, _, _, rfl, jQ3.2 rfl, jT4⟩
theorem qK5 {f : FuncId} {T e k : Nat} {x r : Str} {sv : Value} (H : bldS x = some r)
    (hC : ∀ b v w, IsB T e b v (Lib.byteCells x) w → x ≠ [] → Calls P f #[.pointer (some ⟨b, 0, none⟩)] w fun en w' => en = .returned (.string ⟨x.toArray⟩) ∧ FrB b v.ownBlock w w') :
    jMz P f [fIs sv] [(k, atV (jU2 T e x) sv)] [.gone] none (fV Rep.str r) := by
  unfold bldS at H
  cases hi : x.isEmpty with
  | true => rw [hi] at H; cases H
  | false =>
    rw [hi] at H; cases H
    have h0 : x ≠ [] := by intro e; rw [e] at hi; cases hi
    intro κ B L h w vs E hst hlen hpre hargs
    obtain ⟨a, rfl⟩ : ∃ a, vs = [a] := by
      match vs, hlen with
      | [a], _ => exact ⟨a, rfl⟩
    have ha : a = sv := hargs 0 _ a rfl rfl
    subst ha
    obtain ⟨⟨en, hE, b, v, rfl, rfl⟩, _⟩ := hpre
    have hI := qGp hst (k := Sum.inl k) hE
    have hcl := (hst.own (k := Sum.inl k) hE).1
    refine (hC b v w hI h0).mono ?_
    rintro en w' ⟨rfl, hf⟩
    have hno : ∀ i, (i = b ∨ v.ownBlock = some i) → ∀ o, h i o = none := fun i hi o => by
      rcases hi with rfl | hi
      · exact (hcl (i, 0) (jHq.2 (.inl rfl))).2.2 o (Nat.zero_le _)
      · exact (hcl (i, 0) (jHq.2 (.inr ⟨i, hi, rfl⟩))).2.2 o (Nat.zero_le _)
    have hst' : St B h (Sum.elim (fun i => if i = k then none else E i) L) w' := by
      refine hst.step (Sum.inl k) (fun i => i = b ∨ v.ownBlock = some i) ?_ hf.size hf.os hf.tape hf.output (fun i hi hT => hf.block i hi (fun e => hT (.inl e)) (fun e => hT (.inr e.symm))) (Hle.refl h) (fun _ _ _ _ => rfl) ?_ ?_ ?_ (fun e => e.elim) ?_
      · rintro i (rfl | hi) _
        · exact ⟨_, hE, (i, 0), jHq.2 (.inl rfl), rfl⟩
        · exact ⟨_, hE, (i, 0), jHq.2 (.inr ⟨i, hi, rfl⟩), rfl⟩
      · rintro i o' u (hT | hn) hu
        · rw [hno i hT] at hu; cases hu
        · rw [hst.fresh hn] at hu; cases hu
      · intro k' e' hne he
        cases k' with
        | inr y => exact he
        | inl y =>
          have : y ≠ k := fun e => hne (by rw [e])
          simpa [this] using he
      · intro e' he; simp at he
      · rintro i o' u (hT | hn) _ _ hu
        · rw [hno i hT] at hu; cases hu
        · rw [hst.fresh hn] at hu; cases hu
    exact ⟨_, h, _, rfl, Hle.refl h, hst', ⟨trivial, trivial⟩, trivial, jVl.2 rfl⟩
end
end Go.KB
