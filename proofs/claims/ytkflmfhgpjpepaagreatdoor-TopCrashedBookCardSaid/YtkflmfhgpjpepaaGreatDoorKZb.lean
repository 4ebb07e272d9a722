/- Appending, making, cutting slices; rows that are written. Rows that are made and written; cuts of slices; texts; comparisons. Texts; comparisons of bools and structs. Branches, loops, calls, returns. Function values; functions that hand a row back; a slice against nil. Functions that write what the caller owns: a row, a part of a row, a variable. No condition. -/
import Derived.Test.YtkflmfhgpjpepaaGreatDoorKZa
import Derived.Laws.StructEq
import Derived.Laws.Strings
import Derived.WalkSpells
import Derived.Lib.BufferMore
namespace Go.KB
variable {P : Program} {o : Oper} {N : List (Nat × jJs)} {f : jJs} {α β : Type}
def mv (L : Nat → Option Ent) (s d : Nat) : Nat → Option Ent := fun k => if k = d then L s else if k = s then none else L k
theorem St.mv {κ : Type} {B : Base} {h : H} {L : Nat → Option Ent} {F : κ → Option Ent} {w : World} (hst : St B h (Sum.elim L F) w) (s d : Nat) : St B h (Sum.elim (mv L s d) F) w := by
 refine hst.reind (fun k => match k with | .inr k => .inr k | .inl k => if k = d then .inl s else .inl k) ?_ ?_
 ·intro k' e hk
  cases k' with
  | inr k => exact hk
  | inl k =>
   simp only [Sum.elim_inl, KB.mv] at hk
   simp only []
   split at hk
   ·rename_i h1; rw [if_pos h1]; exact hk
   ·rename_i h1
    rw [if_neg h1]
    split at hk
    ·cases hk
    ·exact hk
 ·intro k k' e e' hk hk' hne
  cases k with
  | inr k => cases k' with
   | inr k' => intro he; exact hne he
   | inl k' => intro he; simp only [] at he; split at he <;> cases he
  | inl k => cases k' with
   | inr k' => intro he; simp only [] at he; split at he <;> cases he
   | inl k' =>
    simp only [Sum.elim_inl, KB.mv] at hk hk'
    have hne' : k ≠ k' := fun x => hne (by rw [x])
    simp only []
    intro he
    split at he <;> split at he
    ·rename_i h1 h2; exact hne' (h1.trans h2.symm)
    ·rename_i h1 h2
     have := Sum.inl.inj he
     rw [if_neg h2, if_pos this.symm] at hk'; cases hk'
    ·rename_i h1 h2
     have := Sum.inl.inj he
     rw [if_neg h1, if_pos this] at hk; cases hk
    ·exact hne' (Sum.inl.inj he)
theorem jRd {L0 L : Nat → Option Ent} {s d : Nat} {e : Ent} {q : jXa} {a : Act} (hL0 : ∀ k, k ≠ s → L k = L0 k) (hsd : s ≠ d) (hL : L s = some e) (hq : q (a.gt d) e) : jPq L0 (mv L s d) (full [(s, none), (d, some q)] (some d)) a := by
  intro k
  have hsd' : Nat.beq s d = false := by rw [Bool.eq_false_iff, Ne, jWx]; exact hsd
  by_cases hk : k = d
  · subst hk
    have : lkU (full [(s, none), (k, some q)] (some k)) k = some (some q) := by simp [full, lkU, hsd', Nat.beq_refl]
    rw [this]; exact ⟨e, by simp [mv, hL], hq⟩
  · by_cases hks : k = s
    · subst hks
      have : lkU (full [(k, none), (d, some q)] (some d)) k = some none := by simp [full, lkU, Nat.beq_refl]
      rw [this]; trivial
    · have h1 : Nat.beq s k = false := by rw [Bool.eq_false_iff, Ne, jWx]; exact fun x => hks x.symm
      have h2 : Nat.beq d k = false := by rw [Bool.eq_false_iff, Ne, jWx]; exact fun x => hk x.symm
      have : lkU (full [(s, none), (d, some q)] (some d)) k = none := by simp [full, lkU, h1, h2]
      rw [this]; simp only [mv, hk, hks, if_false]; exact hL0 k hks
theorem jPn {L : Nat → Option Ent} {s d : Nat} {e : Ent} {q : jXa} {a : Act} (hsd : s ≠ d) (hL : L s = some e) (hq : q (a.gt d) e) : jPq L (mv L s d) (full [(s, none), (d, some q)] (some d)) a := jRd (fun _ _ => rfl) hsd hL hq
theorem jQl {q : jXa} {s d : Nat} (hsd : Nat.beq s d = false) (hd : o.dst = some d) (ho : o.op = .move (.tmp s) ∨ o.op = .assign (.tmp s)) (hx : jQq N (.tmp s) f) : jXy P o N [(s, q)] f [(s, none), (d, some q)] := by
 intro κ B F L h a w hst hn hk hdn next Q hnext _
 obtain ⟨e, hL, hq⟩ := hk.1
 have hne : s ≠ d := fun x => by rw [jWx.2 x] at hsd; cases hsd
 unfold Oper.wpK
 have : (execOp a.eval o).run P w = .ok (.value (a.gt s)) w := by rcases ho with ho | ho <;> (simp [execOp, ho, Act.eval, Act.gt])
 rw [this]
 refine hnext _ h w _ (Hle.refl h) (hx h a hn) (hst.mv s d) ?_
 rw [hd]
 exact jPn hne hL (by rw [jQ2 (hdn d hd)]; exact hq)
theorem jWz {E : TypeId} {r : Rep α} {sz d : Nat} (hd : o.dst = some d) (ho : o.op = .assign (.const (.slice none 0 0)) ∨ o.op = .move (.const (.slice none 0 0))) : jXy P o N [] (fV (Rep.slice r) []) [(d, some (jV4 E sz))] := by
 intro κ B F L h a w hst hn _ hdn next Q hnext _
 unfold Oper.wpK
 have : (execOp a.eval o).run P w = .ok (.value (.slice none 0 0)) w := by rcases ho with ho | ho <;> (simp [execOp, ho]; rfl)
 rw [this]
 have hst' : St B h (Sum.elim (set1 L d jFv) F) w := by
  refine hst.step (Sum.inl d) (fun _ => False) (fun b hb => hb.elim) (Nat.le_refl _) rfl rfl rfl (fun _ _ _ => rfl) (Hle.refl h) (fun _ _ _ _ => rfl) ?_ jU9 ?_
  ·rintro b o' v (hb | hb) hv
   ·exact hb.elim
   ·rw [hst.fresh hb] at hv; cases hv
  ·intro e' he; rw [jGq he]; exact ⟨fun c hc => (by cases hc), trivial⟩
 refine hnext _ h w _ (Hle.refl h) (jVg.2 (.inl ⟨⟨none, rfl⟩, rfl⟩)) hst' ?_
 rw [hd]
 exact jYy (.inl ⟨none, 0, jQ2 (hdn d hd), rfl⟩)
def lim : Nat := 2 ^ 37
def app (xs ys : List α) : Option (List α) := bif Nat.ble (xs.length + ys.length) lim then some (xs ++ ys) else none
theorem jAy {xs ys zs : List α} (h : app xs ys = some zs) : zs = xs ++ ys ∧ xs.length + ys.length ≤ lim := by
 unfold app at h
 cases hb : Nat.ble (xs.length + ys.length) lim with
 | true => rw [hb] at h; cases h; exact ⟨rfl, Nat.le_of_ble_eq_true hb⟩
 | false => rw [hb] at h; cases h
theorem jBa {T ty E : TypeId} {i : TypeInfo} (w : World) (ht : P.underlying T = some (.slice E)) (hi : P.info? E = some i) (g off sLen sCap : Nat) (cur : Array Value) (hg : w.heap[g]? = some (.cells cur E (0, 0)))
  (a : Addr) (m c : Nat) (news : List Value) (hl : news.length = m * i.size) (hnews : ∀ j u, news[j]? = some u → w.cell? (a.add j) = some u) (h1 : ∀ u ∈ news, u.oneCell' = true) (hroom : sLen + m ≤ sCap) (hfit : off + sLen * i.size + news.length ≤ cur.size) :
  (Builtin.append_ #[T, T] ty #[.slice (some ⟨g, off, none⟩) sLen sCap, .slice (some a) m c]).run P w =
   .ok (.slice (some ⟨g, off, none⟩) (sLen + m) sCap) (w.setRow g (cur.toList.take (off + sLen * i.size) ++ news ++ cur.toList.drop (off + sLen * i.size + news.length)).toArray) := by
 have hf := run_firstCells_some (P := P) w i.size m a m c news hl hnews
 have hst := run_storeCells_at P g (off + sLen * i.size) E news 0 cur w hg (by simpa using hfit) h1
 simp only [Nat.add_zero] at hst
 simp [Builtin.append_, run_underlying ht, sizeOf, typeInfo, hi, Builtin.lenOf, hroom, hf, Addr.add_mid, hst]
theorem run_append_nothing {T ty E : TypeId} {i : TypeInfo} (w : World) (ht : P.underlying T = some (.slice E)) (hi : P.info? E = some i) (base : Option Addr) (sLen sCap : Nat) (hl : sLen ≤ sCap) (y : Option Addr) (c : Nat) :
  (Builtin.append_ #[T, T] ty #[.slice base sLen sCap, .slice y 0 c]).run P w = .ok (.slice base sLen sCap) w := by
 have hf : (Builtin.firstCells i.size 0 (.slice y 0 c)).run P w = .ok #[] w := by
  cases y with
  | none => rfl
  | some a => simp [Builtin.firstCells, loadCells, loadCellsFrom]
 cases base with
 | none => simp [Builtin.append_, run_underlying ht, sizeOf, typeInfo, hi, Builtin.lenOf, hl, hf]
 | some b => simp [Builtin.append_, run_underlying ht, sizeOf, typeInfo, hi, Builtin.lenOf, hl, hf, storeCells]
theorem jBj.le {r : Rep α} {h : H} {v : Value} {xs : List α} (k : jBj r h v xs) : ∃ base cap, v = .slice base xs.length cap ∧ xs.length ≤ cap := by
 rcases k with ⟨⟨base, rfl⟩, rfl⟩ | ⟨b, off, cap, rfl, hc, _⟩
 ·exact ⟨base, 0, rfl, Nat.le_refl _⟩
 ·exact ⟨_, cap, rfl, hc⟩
theorem zlen (z : Array Value) (n : Nat) : (Builtin.zeroCells z n).toList.length = n * z.size := by rw [Array.length_toList, size_zeroCells]
theorem jDa {L : Nat → Option Ent} {s d : Nat} {e : Ent} {q : jXa} {a : Act} (hsd : s ≠ d) (hq : q (a.gt d) e) : jPq L (set1 L d e) (full [(s, none), (d, some q)] (some d)) a := by
  intro k
  have hsd' : Nat.beq s d = false := by rw [Bool.eq_false_iff, Ne, jWx]; exact hsd
  by_cases hk : k = d
  · subst hk
    have : lkU (full [(s, none), (k, some q)] (some k)) k = some (some q) := by simp [full, lkU, hsd', Nat.beq_refl]
    rw [this]; exact ⟨e, by simp [set1], hq⟩
  · by_cases hks : k = s
    · subst hks
      have : lkU (full [(k, none), (d, some q)] (some d)) k = some none := by simp [full, lkU, Nat.beq_refl]
      rw [this]; trivial
    · have h1 : Nat.beq s k = false := by rw [Bool.eq_false_iff, Ne, jWx]; exact fun x => hks x.symm
      have h2 : Nat.beq d k = false := by rw [Bool.eq_false_iff, Ne, jWx]; exact fun x => hk x.symm
      have : lkU (full [(s, none), (d, some q)] (some d)) k = none := by simp [full, lkU, h1, h2]
      rw [this]; simp [set1, hk]

theorem St.grown {κ : Type} {B : Base} {h : H} {L : Nat → Option Ent} {F : κ → Option Ent} {w : World} (hst : St B h (Sum.elim L F) w) {r : Rep α} {cx cy : List Value} {xs ys : List α} (E : TypeId) (d cap : Nat) (hx : jG6 r h cx xs) (hy : jG6 r h cy ys) (hge : xs.length + ys.length ≤ cap) :
  ∃ h', Hle h h' ∧ St B h' (Sum.elim (set1 L d (cellsE E w.heap.size ((xs.length + ys.length) * r.sz) (cap * r.sz))) F) (w.drew.alloc (.cells (cx.toArray ++ cy.toArray ++ Builtin.zeroCells (pack r.agg r.zc).cells (cap - (xs.length + ys.length))) E)) ∧
   jBj r h' (.slice (some ⟨w.heap.size, 0, none⟩) (xs.length + ys.length) cap) (xs ++ ys) := by
 have hzc : (pack r.agg r.zc).cells.size = r.sz := by rw [jUh (r.zrel h)]; simp [r.len (r.zrel h)]
 have hxy := hx.append hy
 obtain ⟨h', hle, hst', hsl⟩ := (hst.drawn (w.drawn + 1) (Nat.le_succ _)).newRow (rest := (Builtin.zeroCells (pack r.agg r.zc).cells (cap - (xs.length + ys.length))).toList) E d cap hxy (by
  rw [List.length_append, hxy.len, zlen, hzc, ← Nat.add_mul, List.length_append]; congr 1; omega) (by rw [List.length_append]; exact hge)
 rw [List.length_append] at hst' hsl
 refine ⟨h', hle, ?_, hsl⟩
 have : (cx.toArray ++ cy.toArray ++ Builtin.zeroCells (pack r.agg r.zc).cells (cap - (xs.length + ys.length))) = ((cx ++ cy) ++ (Builtin.zeroCells (pack r.agg r.zc).cells (cap - (xs.length + ys.length))).toList).toArray := by
  apply Array.ext'; simp
 rw [this]
 exact hst'
theorem qQg {T E : TypeId} {r : Rep α} (b0 : Bool) {s d : Nat} {y : Operand} {xs ys : List α} (hbb : ∀ i, P.info? E = some i → i.bytes ≤ 1024 → (xs.length + ys.length) * i.bytes ≤ 140737488355328) (h63 : xs.length + ys.length ≤ 9223372036854775807) (el : jCh P E r) (hT : P.underlying T = some (.slice E)) (hsd : Nat.beq s d = false) (hd : o.dst = some d)
    (ho : o.op = .call { callee := .builtin .append, args := #[.tmp s, y], argTypes := #[T, T] }) (hx : jQq N (.tmp s) (fV (Rep.slice r) xs)) (hy : jQq N y (fV (Rep.slice { r with fr := b0 }) ys)) :
    jXy P o N [(s, jV4 E r.sz)] (fV (Rep.slice r) (xs ++ ys)) [(s, none), (d, some (jV4 E r.sz))] := by
  obtain ⟨i, hi, hsz, hby, hzero⟩ := el.out
  have hne : s ≠ d := fun x => by rw [jWx.2 x] at hsd; cases hsd
  have hbytes : (xs.length + ys.length) * i.bytes ≤ 140737488355328 := hbb i hi hby
  intro κ B F L h a w hst hn hk hdn next Q hnext _
  obtain ⟨e, hL, hq⟩ := hk.1
  have hL : L s = some e := hL
  have hq : jV4 E r.sz (a.gt s) e := hq
  have hxv : jBj r h (a.gt s) xs := jVg.1 (hx h a hn)
  have hyv := jVg.1 (hy h a hn)
  have hrun : ∀ v w', (Builtin.append_ #[T, T] o.type #[a.gt s, a.eval y]).run P w = .ok v w' → (execOp a.eval o).run P w = .ok (.value v) w' := by
    intro v w' hr
    have he : a.eval (.tmp s) = a.gt s := rfl
    simp only [execOp, ho, resolve, invoke, builtin, Sem.run_bind, Sem.run_pure, Result.andThen_ok, List.map_toArray, List.map_cons, List.map_nil, he, hr]
  unfold Oper.wpK
  -- nothing is appended
  by_cases hy0 : ys = []
  · subst hy0
    obtain ⟨base, cap, hv, hc⟩ := hxv.le
    obtain ⟨base', cap', hv', hc'⟩ := hyv.le
    rw [List.length_nil] at hv'
    rw [hrun _ _ (by rw [hv, hv']; exact run_append_nothing w hT hi base xs.length cap hc base' cap'), ← hv]
    refine hnext _ h w _ (Hle.refl h) (jVg.2 (by rw [List.append_nil]; exact hxv)) (hst.mv s d) ?_
    rw [hd]
    exact jPn hne hL (by rw [jQ2 (hdn d hd)]; exact hq)
  · have hypos : 0 < ys.length := List.length_pos_iff.2 hy0
    rcases hyv with ⟨_, rfl⟩ | ⟨by_, offy, capy, hyval, _, hyref⟩
    · exact absurd rfl hy0
    obtain ⟨cy, hcy, hcyh⟩ := jBj.cells hyref
    have hcy : jG6 r h cy ys := hcy.fr
    have hnews : ∀ j u, cy[j]? = some u → w.cell? ((⟨by_, offy, none⟩ : Addr).add j) = some u := fun j u hj => by rw [Addr.add_mid]; exact hst.ext (hcyh j u hj)
    have hcyl : cy.length = ys.length * i.size := by rw [hcy.len, hsz]
    rcases hxv with ⟨⟨base, hxval⟩, rfl⟩ | ⟨b, off, cap, hxval, hcap, hxref⟩
    · -- onto nil
      simp only [List.length_nil, Nat.zero_add] at hbytes h63
      have hr : ∃ v w', (Builtin.append_ #[T, T] o.type #[.slice base 0 0, .slice (some ⟨by_, offy, none⟩) ys.length capy]).run P w = .ok v w' ∧ v = .slice (some ⟨w.heap.size, 0, none⟩) ys.length (grownCap w ys.length 0 E) ∧
          w' = w.drew.alloc (.cells (cy.toArray ++ Builtin.zeroCells (pack r.agg r.zc).cells (grownCap w ys.length 0 E - ys.length)) E) := by
        cases base with
        | none => exact ⟨_, _, run_append_nil (P := P) w T o.type E i _ hT hi hzero ⟨by_, offy, none⟩ ys.length capy cy hcyl hnews hypos (by omega) (by omega), rfl, rfl⟩
        | some a0 =>
          have hr := run_append_grow (P := P) w T o.type E i _ hT hi hzero a0 0 0 [] (by simp) (fun j u hj => by simp at hj) ⟨by_, offy, none⟩ ys.length capy cy hcyl hnews (by omega) (by omega) (growslice_fits (by omega) (by simpa using hbytes))
          rw [Nat.zero_add] at hr
          exact ⟨_, _, hr, rfl, by simp⟩
      obtain ⟨v, w', hr, rfl, rfl⟩ := hr
      rw [hrun _ _ (by rw [hxval, hyval]; exact hr)]
      obtain ⟨h', hle, hst', hsl⟩ := hst.grown (cx := []) (xs := ([] : List α)) E d (grownCap w ys.length 0 E) rfl hcy (by rw [List.length_nil, Nat.zero_add]; exact grownCap_ge w ys.length 0 E)
      simp only [List.length_nil, Nat.zero_add] at hst' hsl
      have he : (#[] : Array Value) ++ cy.toArray = cy.toArray := by simp
      rw [show ([] : List Value).toArray = #[] from rfl, he] at hst'
      refine hnext _ h' _ _ hle (jVg.2 hsl) hst' ?_
      rw [hd]
      exact jDa hne (.inr ⟨_, 0, _, _, jQ2 (hdn d hd), by simp⟩)
    · obtain ⟨cx, hcx, hcxh⟩ := jBj.cells hxref
      by_cases hroom : xs.length + ys.length ≤ cap
      · -- in its place
        rcases hq with ⟨jF7, len1, h1, _⟩ | ⟨b1, off1, len1, cap1, h1, h2⟩
        · rw [hxval] at h1
          injection h1 with _ h3 h4
          omega
        rw [hxval] at h1; cases h1
        rw [h2] at hL
        obtain ⟨hcl, cs, hb, hhi⟩ := hst.own (k := Sum.inl s) hL
        have hno := (hcl (b, off + xs.length * r.sz) (by simp [cellsE])).2.2
        have hb' : w.heap[b]? = some (.cells cs E (0, 0)) := hb
        have hcyl' := hcy.len
        have hmul : (xs.length + ys.length) * r.sz ≤ cap * r.sz := Nat.mul_le_mul_right _ hroom
        rw [Nat.add_mul] at hmul
        have hfit : off + xs.length * r.sz + cy.length ≤ cs.size := by omega
        have hr := jBa (P := P) (ty := o.type) w hT hi b off xs.length cap cs hb' ⟨by_, offy, none⟩ ys.length capy cy hcyl hnews hcy.flat hroom (by rw [hsz]; exact hfit)
        rw [hsz] at hr
        rw [hrun _ _ (by rw [hxval, hyval]; exact hr)]
        generalize hc2 : (cs.toList.take (off + xs.length * r.sz) ++ cy ++ cs.toList.drop (off + xs.length * r.sz + cy.length)).toArray = cs2
        have hsz2 : cs2.size = cs.size := by rw [← hc2]; simp; omega
        have hlow : ∀ o', o' < off + xs.length * r.sz → cs2[o']? = cs[o']? := by
          intro o' ho'
          rw [← hc2]
          simp only [List.getElem?_toArray, List.append_assoc]
          rw [List.getElem?_append_left (by simp; omega), List.getElem?_take, if_pos ho']
          simp
        have hmid : ∀ j v, cy[j]? = some v → cs2[off + xs.length * r.sz + j]? = some v := by
          intro j v hj
          have hjl := (List.getElem?_eq_some_iff.1 hj).1
          rw [← hc2]
          simp only [List.getElem?_toArray, List.append_assoc]
          rw [List.getElem?_append_right (by simp; omega)]
          have : (List.take (off + xs.length * r.sz) cs.toList).length = off + xs.length * r.sz := by simp; omega
          rw [this, Nat.add_sub_cancel_left, List.getElem?_append_left hjl]; exact hj
        have hw2 : (w.setRow b cs2).heap[b]? = some (.cells cs2 E (0, 0)) := setRow_heap w b cs cs2 E (0, 0) hb'
        have hst1 : St B h (Sum.elim L F) (w.setRow b cs2) := by
          refine hst.write (Sum.inl s) (e := cellsE E b (off + xs.length * r.sz) (off + cap * r.sz)) hL (b := b) (lo := off + xs.length * r.sz) (by simp [cellsE]) hw2 (fun k hk' => setRow_other w b k cs2 hk') (by simp [World.setRow]) rfl rfl rfl ?_ (fun _ _ _ x => x) ?_
          · intro o' v hv
            have ho' : o' < off + xs.length * r.sz := Nat.lt_of_not_le fun hge => by rw [hno o' hge] at hv; cases hv
            rw [hlow o' ho']
            have := hst.ext hv
            rwa [jGy _ _ _ _ _ _ hb'] at this
          · intro e' he'
            have : e' = cellsE E b (off + xs.length * r.sz) (off + cap * r.sz) := by simpa [hL] using he'.symm
            rw [this]
            exact ⟨fun c hc => hc, cs2, hw2, by rw [hsz2]; exact hhi⟩
        obtain ⟨hle, hst2⟩ := hst1.freeze (Sum.inl s) (e := cellsE E b (off + xs.length * r.sz) (off + cap * r.sz)) hL (b := b) (lo := off + xs.length * r.sz) (by simp [cellsE]) hw2 (off + (xs.length + ys.length) * r.sz) (by rw [hsz2, Nat.add_mul]; omega)
          (L' := Sum.elim (set1 L s (cellsE E b (off + (xs.length + ys.length) * r.sz) (off + cap * r.sz))) F) jU9 (by
            intro e' he'
            rw [jGq he']
            refine ⟨?_, cs2, hw2, by rw [hsz2]; exact hhi⟩
            intro q hq
            simp [cellsE] at hq
            subst hq
            exact ⟨⟨(b, off + xs.length * r.sz), by simp [cellsE], rfl, by simp only [Nat.add_mul]; omega⟩, fun _ => Nat.le_refl _⟩)
        have hst3 := hst2.mv s d
        have hh : ∀ j v, (cx ++ cy)[j]? = some v → hadd h b (cs2.toList.take (off + (xs.length + ys.length) * r.sz)) b (off + j) = some v := by
          intro j v hj
          have hjl := (List.getElem?_eq_some_iff.1 hj).1
          rw [List.length_append, hcx.len, hcyl'] at hjl
          have hlen2 : (cs2.toList.take (off + (xs.length + ys.length) * r.sz)).length = off + (xs.length + ys.length) * r.sz := by
            rw [List.length_take, show cs2.toList.length = cs.size from hsz2, Nat.add_mul]; omega
          have hlt : off + j < (cs2.toList.take (off + (xs.length + ys.length) * r.sz)).length := by rw [hlen2, Nat.add_mul]; omega
          rw [jGk hlt, ← List.getElem?_eq_getElem hlt, List.getElem?_take, if_pos (by rw [hlen2] at hlt; exact hlt)]
          rw [Array.getElem?_toList]
          by_cases hjx : j < cx.length
          · rw [List.getElem?_append_left hjx] at hj
            rw [hcx.len] at hjx
            rw [hlow _ (by omega)]
            have := hst.ext (hcxh j v hj)
            rwa [jGy _ _ _ _ _ _ hb'] at this
          · rw [List.getElem?_append_right (by omega)] at hj
            have := hmid _ v hj
            rw [hcx.len] at this hjx
            rwa [show off + xs.length * r.sz + (j - xs.length * r.sz) = off + j from by omega] at this
        refine hnext _ _ _ _ hle (jVg.2 (.inr ⟨b, off, cap, by rw [List.length_append], by rw [List.length_append]; exact hroom, ?_, fun _ => hst.mo (k := Sum.inl s) hL (c := (b, off + xs.length * r.sz)) (by simp [cellsE])⟩)) hst3 ?_
        · exact ((hcx.append hcy).mono hle).refs hh
        · rw [hd]
          exact jRd (fun k hk => by simp [set1, hk]) hne (by simp [set1]) (.inr ⟨b, off, xs.length + ys.length, cap, jQ2 (hdn d hd), rfl⟩)
      · -- in a new array
        have hr := run_append_grow (P := P) w T o.type E i _ hT hi hzero ⟨b, off, none⟩ xs.length cap cx (by rw [hcx.len, hsz]) (fun j u hj => by rw [Addr.add_mid]; exact hst.ext (hcxh j u hj)) ⟨by_, offy, none⟩ ys.length capy cy hcyl hnews (by omega) (by omega) (growslice_fits (by omega) hbytes)
        rw [hrun _ _ (by rw [hxval, hyval]; exact hr)]
        obtain ⟨h', hle, hst', hsl⟩ := hst.grown E d (grownCap w (xs.length + ys.length) cap E) hcx hcy (grownCap_ge w _ cap E)
        refine hnext _ h' _ _ hle (jVg.2 hsl) hst' ?_
        rw [hd]
        exact jDa hne (.inr ⟨_, 0, _, _, jQ2 (hdn d hd), by simp⟩)
theorem jHf {T E : TypeId} {r : Rep α} {s d : Nat} {y : Operand} {xs ys zs : List α} (hz : app xs ys = some zs) (el : jCh P E r) (hT : P.underlying T = some (.slice E)) (hsd : Nat.beq s d = false) (hd : o.dst = some d)
  (ho : o.op = .call { callee := .builtin .append, args := #[.tmp s, y], argTypes := #[T, T] }) (hx : jQq N (.tmp s) (fV (Rep.slice r) xs)) (hy : jQq N y (fV (Rep.slice r) ys)) :
  jXy P o N [(s, jV4 E r.sz)] (fV (Rep.slice r) zs) [(s, none), (d, some (jV4 E r.sz))] := by
 obtain ⟨rfl, hlim⟩ := jAy hz
 exact qQg r.fr (fun i _ hby => by have := Nat.mul_le_mul hlim hby; unfold lim at this; omega) (by unfold lim at hlim; omega) el hT hsd hd ho hx hy
end Go.KB
namespace Go.KB
variable {P : Program} {o : Oper} {N : List (Nat × jJs)} {f : jJs} {α β : Type}
def jUr (b : Nat) (E : TypeId) (r : Rep α) (xs : List α) (cap : Nat) : Ent where
 claims := [(b, 0)]
 ok := fun h m => ∃ cs rest, m b = some (.cells (cs ++ rest).toArray E (0, 0)) ∧ jG6 r h cs xs ∧ (cs ++ rest).length = cap * r.sz
 mono := by rintro h h' m hl ⟨cs, rest, e, k, l⟩; exact ⟨cs, rest, e, k.mono hl, l⟩
 frame := fun hm ⟨cs, rest, e, k, l⟩ => ⟨cs, rest, by rw [hm (b, 0) (by simp)]; exact e, k, l⟩
def jKg (E : TypeId) (r : Rep α) (xs : List α) : jXa := fun v e => ((∃ base, v = .slice base 0 0) ∧ xs = [] ∧ e = jFv) ∨ ∃ b cap, v = .slice (some ⟨b, 0, none⟩) xs.length cap ∧ xs.length ≤ cap ∧ e = jUr b E r xs cap
def fCp (s : Nat) : jJs := ⟨some s, fun _ d v => v = d, fun _ x => x⟩
def fEl (s off : Nat) : jJs := ⟨some s, fun _ d v => ∃ b len cap, d = .slice (some ⟨b, 0, none⟩) len cap ∧ v = .pointer (some ⟨b, off, none⟩), fun _ x => x⟩
def mk (z : α) (m c : Int) : Option (List α) := bif decide (0 ≤ m) && decide (m ≤ c) && decide (c ≤ lim) then some (List.replicate m.toNat z) else none
theorem jTm {n : Int} (h0 : -9223372036854775808 ≤ n) (h1 : n ≤ 9223372036854775807) : IntKind.i64.wrap n = n := IntWalk.i64_in _ ⟨h0, h1⟩
theorem jF8 {s : Nat} (ho : o.op = .move (.tmp s)) : jXy P o N [] (fCp s) [] :=
 jXy.ofRun fun h a w _ _ => ⟨a.gt s, by simp [execOp, ho, Act.eval, Act.gt], rfl⟩
theorem jS6 {T E E' : TypeId} {r : Rep α} {s : Nat} {x : Operand} {xs : List α} (hT : P.underlying T = some (.slice E')) (ho : o.op = .call { callee := .builtin .len, args := #[x], argTypes := #[T] }) (hx : jQq N x (fCp s)) :
  jXy P o N [(s, jKg E r xs)] (fV (Rep.int .i64) (xs.length : Int)) [] := by
 intro κ B F L h a w hst hn hk _ next Q hnext _
 obtain ⟨e, _, hq⟩ := hk.1
 have hx' : a.eval x = a.gt s := hx h a hn
 have : (execOp a.eval o).run P w = .ok (.value (.int .i64 (xs.length : Int))) w := by
  rcases hq with ⟨⟨base, hv⟩, rfl, _⟩ | ⟨b, cap, hv, _, _⟩
  ·have hv' : a.gt s = _ := hv
   simp [execOp, ho, resolve, invoke, builtin, Builtin.len_, hx', hv', run_underlying hT, goInt]
  ·have hv' : a.gt s = _ := hv
   simp [execOp, ho, resolve, invoke, builtin, Builtin.len_, hx', hv', run_underlying hT, goInt]
 unfold Oper.wpK
 rw [this]
 exact hnext _ h w L (Hle.refl h) (jXu.2 rfl) hst jYc
theorem jUk {xs : List α} {n : Int} {y : α} (h : idx xs n = some y) : 0 ≤ n ∧ n.toNat < xs.length ∧ xs[n.toNat]? = some y := by
 unfold idx at h
 split at h
 ·cases h
 ·rename_i hn
  exact ⟨by omega, (List.getElem?_eq_some_iff.1 h).1, h⟩
theorem jLy {T E : TypeId} {r : Rep α} {s : Nat} {k : IntKind} {x i : Operand} {xs : List α} {n : Int} {y : α} (hq : idx xs n = some y) (t : jK9 P E r) (hT : P.underlying T = some (.slice E)) (ho : o.op = .indexAddr T x i) (hx : jQq N x (fCp s)) (hi : jQq N i (fV (Rep.int k) n)) :
  jXy P o N [(s, jKg E r xs)] (fEl s (n.toNat * r.sz)) [] := by
 obtain ⟨h0, h1, _⟩ := jUk hq
 intro κ B F L h a w hst hn hk _ next Q hnext _
 obtain ⟨e, _, ⟨_, rfl, _⟩ | ⟨b, cap, hv, _, _⟩⟩ := hk.1
 ·exact absurd h1 (Nat.not_lt_zero _)
 have hx' : a.eval x = a.gt s := hx h a hn
 have hv' : a.gt s = _ := hv
 unfold Oper.wpK
 have hb : 0 ≤ n ∧ n < xs.length := by omega
 have : (execOp a.eval o).run P w = .ok (.value (.pointer (some ⟨b, n.toNat * r.sz, none⟩))) w := by
  simp [execOp, ho, hx', hv', jXu.1 (hi h a hn), Instr.indexAt, asIntOf, run_underlying hT, hb, t.size, Addr.add_mid]
 rw [this]
 exact hnext _ h w L (Hle.refl h) ⟨b, _, cap, hv', rfl⟩ hst jYc
theorem jK1 {T : TypeId} {s i off off' : Nat} {x : Operand} (hf : jQy P T i off) (ho : o.op = .fieldAddr T x i) (hx : jQq N x (fEl s off')) : jXy P o N [] (fEl s (off' + off)) [] :=
 jXy.ofRun fun h a w _ q => by
  obtain ⟨b, len, cap, hd, hv⟩ := hx h a q
  exact ⟨.pointer (some ⟨b, off' + off, none⟩), by simp [execOp, ho, hv, hf b off' w], b, len, cap, hd, rfl⟩
theorem jA4 {κ : Type} {B : Base} {h : H} {L : Nat → Option Ent} {F : κ → Option Ent} {w : World} (hst : St B h (Sum.elim L F) w) {s b cap : Nat} {E : TypeId} {r : Rep α} {xs : List α}
  (hk : L s = some (jUr b E r xs cap)) : ∃ cs rest, w.heap[b]? = some (.cells (cs ++ rest).toArray E (0, 0)) ∧ jG6 r h cs xs ∧ (cs ++ rest).length = cap * r.sz := (hst.own (k := Sum.inl s) hk).2
theorem jBm {T E : TypeId} {r : Rep α} {q : Rep β} {s off m : Nat} {x : Operand} {xs : List α} {y : α} {get : α → β} {set : α → β → α} (hy : xs[m]? = some y) (l : Lens r q off get set) (t : jK9 P T q) (ho : o.op = .load T x) (hx : jQq N x (fEl s (m * r.sz + off))) :
  jXy P o N [(s, jKg E r xs)] (fV q (get y)) [] := by
 intro κ B F L h a w hst hn hk _ next Q hnext _
 obtain ⟨b, len, cap, hd, hv⟩ := hx h a hn
 have hd' : a.gt s = _ := hd
 obtain ⟨e, hL, ⟨_, rfl, _⟩ | ⟨b', cap', hv', hc, rfl⟩⟩ := hk.1
 ·simp at hy
 rw [hd'] at hv'; cases hv'
 obtain ⟨cs, rest, hb, hr, _⟩ := jA4 hst hL
 obtain ⟨p, c, q', rfl, hp, hcr, _⟩ := hr.get hy
 obtain ⟨p2, c2, q2, rfl, hp2, hc2, _⟩ := l h c y hcr
 unfold Oper.wpK
 have hrun := jGw (b := b) (off := m * r.sz + off) (w := w) t (q.len hc2) (fun j v hj => by
  rw [jGy _ _ _ _ _ _ hb]
  have hjl := (List.getElem?_eq_some_iff.1 hj).1
  simp only [List.getElem?_toArray]
  rw [show p ++ (p2 ++ c2 ++ q2) ++ q' ++ rest = (p ++ p2) ++ (c2 ++ (q2 ++ q' ++ rest)) by simp, List.getElem?_append_right (by simp; omega)]
  rw [show m * r.sz + off + j - (p ++ p2).length = j by simp; omega, List.getElem?_append_left hjl]; exact hj)
 have : (execOp a.eval o).run P w = .ok (.value (pack q.agg c2)) w := by simp [execOp, ho, hv, hrun]
 rw [this]
 exact hnext _ h w L (Hle.refl h) ⟨c2, hc2, rfl⟩ hst jYc
theorem jHk {T E : TypeId} {r : Rep α} {q : Rep β} {s off m : Nat} {x v : Operand} {xs : List α} {y : α} {z : β} {get : α → β} {set : α → β → α} {xs' : List α} (hy : xs[m]? = some y) (l : Lens r q off get set) (t : jK9 P T q) (hd : o.dst = none) (ho : o.op = .store T x v)
    (hx : jQq N x (fEl s (m * r.sz + off))) (hv : jQq N v (fV q z)) (hs' : xs' = xs.set m (set y z)) : jXy P o N [(s, jKg E r xs)] jJs.triv [(s, some (jKg E r xs'))] := by
  subst hs'
  intro κ B F L h a w hst hn hk _ next Q hnext _
  obtain ⟨b, len, cap, hdv, hxv⟩ := hx h a hn
  have hd' : a.gt s = _ := hdv
  obtain ⟨e, hL, ⟨_, rfl, _⟩ | ⟨b', cap', hv', hc, rfl⟩⟩ := hk.1
  · simp at hy
  rw [hd'] at hv'; cases hv'
  obtain ⟨cs, rest, hb, hr, hlen⟩ := jA4 hst hL
  obtain ⟨c', hc', hvv⟩ := hv h a hn
  obtain ⟨p, c, q', rfl, hp, hcr, hset⟩ := hr.get hy
  obtain ⟨p2, c2, q2, rfl, hp2, hc2, hset2⟩ := l h c y hcr
  have hsh : p ++ (p2 ++ c2 ++ q2) ++ q' ++ rest = (p ++ p2) ++ c2 ++ (q2 ++ q' ++ rest) := by simp
  have hsh' : (p ++ p2) ++ c' ++ (q2 ++ q' ++ rest) = (p ++ (p2 ++ c' ++ q2) ++ q') ++ rest := by simp
  have hb0 := hb
  rw [hsh] at hb
  have hrun := jU0 t hc' hb (q.len hc2)
  unfold Oper.wpK
  have hpl : (p ++ p2).length = m * r.sz + off := by simp; omega
  have : (execOp a.eval o).run P w = .ok .skip (w.setRow b ((p ++ p2) ++ c' ++ (q2 ++ q' ++ rest)).toArray) := by
    simp only [execOp, ho, hxv, hvv, ← hpl, Sem.run_bind, hrun, Result.andThen_ok, Sem.run_pure]
  rw [this, hsh']
  obtain ⟨hcl, _⟩ := hst.own (k := Sum.inl s) hL
  have hno := (hcl (b, 0) (by simp [jUr])).2.2
  have hrel := hset h _ _ (Hle.refl h) (hset2 h c' z (Hle.refl h) hc')
  have hmem := jBn w b (p ++ (p2 ++ c2 ++ q2) ++ q' ++ rest).toArray ((p ++ (p2 ++ c' ++ q2) ++ q') ++ rest).toArray E hb0
  refine hnext undef h _ (set1 L s (jUr b E r (xs.set m (set y z)) cap)) (Hle.refl h) trivial ?_ ?_
  · refine hst.write (Sum.inl s) (e := jUr b E r xs cap) hL (b := b) (lo := 0) (by simp [jUr]) hmem (fun i hi => setRow_other w b i _ hi) (by simp [World.setRow]) rfl rfl rfl ?_ jU9 ?_
    · intro o' u hh; rw [hno o' (Nat.zero_le _)] at hh; cases hh
    · intro e' he
      rw [jGq he]
      refine ⟨fun c hc => hc, _, rest, hmem, hrel, ?_⟩
      rw [← hlen]
      have := q.len hc'; have := q.len hc2
      simp; omega
  · rw [hd]
    exact jYy (.inr ⟨b, cap, by rw [List.length_set]; exact hd', by rw [List.length_set]; exact hc, rfl⟩)
theorem jSs {E : TypeId} {r : Rep α} {d : Nat} (hd : o.dst = some d) (ho : o.op = .assign (.const (.slice none 0 0)) ∨ o.op = .move (.const (.slice none 0 0))) : jXy P o N [] jJs.triv [(d, some (jKg E r []))] := by
 intro κ B F L h a w hst hn _ hdn next Q hnext _
 unfold Oper.wpK
 have : (execOp a.eval o).run P w = .ok (.value (.slice none 0 0)) w := by rcases ho with ho | ho <;> (simp [execOp, ho]; rfl)
 rw [this]
 have hst' : St B h (Sum.elim (set1 L d jFv) F) w := by
  refine hst.step (Sum.inl d) (fun _ => False) (fun b hb => hb.elim) (Nat.le_refl _) rfl rfl rfl (fun _ _ _ => rfl) (Hle.refl h) (fun _ _ _ _ => rfl) ?_ jU9 ?_
  ·rintro b o' v (hb | hb) hv
   ·exact hb.elim
   ·rw [hst.fresh hb] at hv; cases hv
  ·intro e' he; rw [jGq he]; exact ⟨fun c hc => (by cases hc), trivial⟩
 refine hnext _ h w _ (Hle.refl h) trivial hst' ?_
 rw [hd]
 exact jYy (.inl ⟨⟨_, jQ2 (hdn d hd)⟩, rfl, rfl⟩)
theorem St.newArr {κ : Type} {B : Base} {h : H} {L : Nat → Option Ent} {F : κ → Option Ent} {w : World} (hst : St B h (Sum.elim L F) w) {r : Rep α} {cx cy : List Value} {xs ys : List α} (E : TypeId) (d cap : Nat) (hx : jG6 r h cx xs) (hy : jG6 r h cy ys) (hge : xs.length + ys.length ≤ cap) :
  St B h (Sum.elim (set1 L d (jUr w.heap.size E r (xs ++ ys) cap)) F) (w.drew.alloc (.cells (cx.toArray ++ cy.toArray ++ Builtin.zeroCells (pack r.agg r.zc).cells (cap - (xs.length + ys.length))) E)) := by
 have hzc : (pack r.agg r.zc).cells.size = r.sz := by rw [jUh (r.zrel h)]; simp [r.len (r.zrel h)]
 have hxy := hx.append hy
 have he : (cx.toArray ++ cy.toArray ++ Builtin.zeroCells (pack r.agg r.zc).cells (cap - (xs.length + ys.length))) = ((cx ++ cy) ++ (Builtin.zeroCells (pack r.agg r.zc).cells (cap - (xs.length + ys.length))).toList).toArray := by
  apply Array.ext'; simp
 rw [he]
 refine (hst.drawn (w.drawn + 1) (Nat.le_succ _)).own_new _ d _ (by intro c hc; simp [jUr] at hc; rw [hc]) ⟨_, _, jD3 _ _, hxy, ?_⟩
 rw [List.length_append, hxy.len, zlen, hzc, ← Nat.add_mul, List.length_append]; congr 1; omega
def qV2 (N : List (Nat × jJs)) (x : Operand) (s : Nat) (Q : jXa) (E : TypeId) (r : Rep α) (xs : List α) : Prop := ∀ h a e, jPw N h a → Q (a.gt s) e → jKg E r xs (a.eval x) e
theorem qV2.cp {x : Operand} {s : Nat} {E : TypeId} {r : Rep α} {xs : List α} (hx : jQq N x (fCp s)) : qV2 N x s (jKg E r xs) E r xs := fun h a _ n q => by rw [show a.eval x = a.gt s from hx h a n]; exact q
theorem qJ2 {T E : TypeId} {r : Rep α} {s d : Nat} {x y : Operand} {xs ys zs : List α} {Q : jXa} (hz : app xs ys = some zs) (el : jCh P E r) (hT : P.underlying T = some (.slice E)) (hsd : Nat.beq s d = false) (hd : o.dst = some d)
  (ho : o.op = .call { callee := .builtin .append, args := #[x, y], argTypes := #[T, T] }) (hx : qV2 N x s Q E r xs) (hy : jQq N y (fV (Rep.slice r) ys)) :
  jXy P o N [(s, Q)] jJs.triv [(s, none), (d, some (jKg E r zs))] := by
 obtain ⟨rfl, hlim⟩ := jAy hz
 obtain ⟨i, hi, hsz, hby, hzero⟩ := el.out
 have hne : s ≠ d := fun x => by rw [jWx.2 x] at hsd; cases hsd
 have hbytes : (xs.length + ys.length) * i.bytes ≤ 140737488355328 := by
  have := Nat.mul_le_mul hlim hby
  unfold lim at this; omega
 have h63 : xs.length + ys.length ≤ 9223372036854775807 := by unfold lim at hlim; omega
 intro κ B F L h a w hst hn hk hdn next Q hnext _
 obtain ⟨e, hL, hq⟩ := hk.1
 have hL : L s = some e := hL
 have hq : jKg E r xs (a.eval x) e := hx h a e hn hq
 have hyv := jVg.1 (hy h a hn)
 have hrun : ∀ v w', (Builtin.append_ #[T, T] o.type #[a.eval x, a.eval y]).run P w = .ok v w' → (execOp a.eval o).run P w = .ok (.value v) w' := by
  intro v w' hr
  simp only [execOp, ho, resolve, invoke, builtin, Sem.run_bind, Sem.run_pure, Result.andThen_ok, List.map_toArray, List.map_cons, List.map_nil, hr]
 unfold Oper.wpK
 by_cases hy0 : ys = []
 ·subst hy0
  obtain ⟨base', cap', hv', hc'⟩ := hyv.le
  rw [List.length_nil] at hv'
  have : ∃ base cap, a.eval x = .slice base xs.length cap ∧ xs.length ≤ cap := by
   rcases hq with ⟨⟨base, hv⟩, rfl, _⟩ | ⟨b, cap, hv, hc, _⟩
   ·exact ⟨base, 0, hv, Nat.le_refl _⟩
   ·exact ⟨_, cap, hv, hc⟩
  obtain ⟨base, cap, hv, hc⟩ := this
  rw [hrun _ _ (by rw [hv, hv']; exact run_append_nothing w hT hi base xs.length cap hc base' cap'), ← hv]
  refine hnext _ h w _ (Hle.refl h) trivial (hst.mv s d) ?_
  rw [hd]
  exact jPn hne hL (by rw [jQ2 (hdn d hd), List.append_nil]; exact hq)
 ·have hypos : 0 < ys.length := List.length_pos_iff.2 hy0
  rcases hyv with ⟨_, rfl⟩ | ⟨by_, offy, capy, hyval, _, hyref⟩
  ·exact absurd rfl hy0
  obtain ⟨cy, hcy, hcyh⟩ := jBj.cells hyref
  have hnews : ∀ j u, cy[j]? = some u → w.cell? ((⟨by_, offy, none⟩ : Addr).add j) = some u := fun j u hj => by rw [Addr.add_mid]; exact hst.ext (hcyh j u hj)
  have hcyl : cy.length = ys.length * i.size := by rw [hcy.len, hsz]
  rcases hq with ⟨⟨base0, hxval⟩, rfl, rfl⟩ | ⟨b, cap, hxval, hcap, rfl⟩
  ·simp only [List.length_nil, Nat.zero_add] at hbytes h63
   have hxval : a.eval x = _ := hxval
   cases base0 with
   | some a0 =>
    have hr := run_append_grow (P := P) w T o.type E i _ hT hi hzero a0 0 0 [] (by simp) (fun j u hj => by simp at hj) ⟨by_, offy, none⟩ ys.length capy cy hcyl hnews (by omega) (by omega) (growslice_fits (by omega) (by rw [Nat.zero_add]; exact hbytes))
    rw [hrun _ _ (by rw [hxval, hyval]; exact hr)]
    have hst' := hst.newArr (cx := []) (xs := ([] : List α)) E d (grownCap w (0 + ys.length) 0 E) rfl hcy (by rw [List.length_nil]; exact grownCap_ge w _ 0 E)
    simp only [List.length_nil] at hst'
    refine hnext _ h _ _ (Hle.refl h) trivial hst' ?_
    rw [hd]
    exact jDa hne (.inr ⟨_, _, by rw [jQ2 (hdn d hd), List.nil_append, Nat.zero_add], by have := grownCap_ge w (0 + ys.length) 0 E; simp at this ⊢; omega, by simp⟩)
   | none =>
   have hr := run_append_nil (P := P) w T o.type E i _ hT hi hzero ⟨by_, offy, none⟩ ys.length capy cy hcyl hnews hypos (by omega) (by omega)
   rw [hrun _ _ (by rw [hxval, hyval]; exact hr)]
   have hst' := hst.newArr (cx := []) (xs := ([] : List α)) E d (grownCap w ys.length 0 E) rfl hcy (by rw [List.length_nil, Nat.zero_add]; exact grownCap_ge w ys.length 0 E)
   simp only [List.length_nil, Nat.zero_add] at hst'
   have he : (#[] : Array Value) ++ cy.toArray = cy.toArray := by simp
   rw [show ([] : List Value).toArray = #[] from rfl, he] at hst'
   refine hnext _ h _ _ (Hle.refl h) trivial hst' ?_
   rw [hd]
   exact jDa hne (.inr ⟨_, _, jQ2 (hdn d hd), by simp; exact grownCap_ge w ys.length 0 E, by simp⟩)
  ·have hxval : a.eval x = _ := hxval
   obtain ⟨cs, rest, hb, hr0, hlen⟩ := jA4 hst hL
   by_cases hroom : xs.length + ys.length ≤ cap
   ·have hcl0 := hr0.len
    have hcyl' := hcy.len
    have hmul : (xs.length + ys.length) * r.sz ≤ cap * r.sz := Nat.mul_le_mul_right _ hroom
    rw [Nat.add_mul] at hmul
    have hlen' : cs.length + rest.length = cap * r.sz := by rw [← hlen, List.length_append]
    have hr := jBa (P := P) (ty := o.type) w hT hi b 0 xs.length cap (cs ++ rest).toArray hb ⟨by_, offy, none⟩ ys.length capy cy hcyl hnews hcy.flat hroom (by rw [hsz]; simp; omega)
    rw [hsz, Nat.zero_add] at hr
    have hnew : ((cs ++ rest).toArray.toList.take (xs.length * r.sz) ++ cy ++ (cs ++ rest).toArray.toList.drop (xs.length * r.sz + cy.length)) = (cs ++ cy) ++ rest.drop cy.length := by
     rw [← hcl0]
     simp [List.drop_append]
    rw [hnew] at hr
    rw [hrun _ _ (by rw [hxval, hyval]; exact hr)]
    obtain ⟨hcl, _⟩ := hst.own (k := Sum.inl s) hL
    have hno := (hcl (b, 0) (by simp [jUr])).2.2
    have hmem := jBn w b (cs ++ rest).toArray ((cs ++ cy) ++ rest.drop cy.length).toArray E hb
    have hst1 : St B h (Sum.elim (set1 L s (jUr b E r (xs ++ ys) cap)) F) (w.setRow b ((cs ++ cy) ++ rest.drop cy.length).toArray) := by
     refine hst.write (Sum.inl s) (e := jUr b E r xs cap) hL (b := b) (lo := 0) (by simp [jUr]) hmem (fun i hi => setRow_other w b i _ hi) (by simp [World.setRow]) rfl rfl rfl ?_ jU9 ?_
     ·intro o' u hh; rw [hno o' (Nat.zero_le _)] at hh; cases hh
     ·intro e' he
      rw [jGq he]
      refine ⟨fun c hc => hc, _, _, hmem, hr0.append hcy, ?_⟩
      simp; omega
    refine hnext _ h _ _ (Hle.refl h) trivial (hst1.mv s d) ?_
    rw [hd]
    exact jRd (fun k hk => by simp [set1, hk]) hne (by simp [set1]) (.inr ⟨b, cap, by rw [jQ2 (hdn d hd), List.length_append], by rw [List.length_append]; exact hroom, rfl⟩)
   ·have hcl0 := hr0.len
    have hr := run_append_grow (P := P) w T o.type E i _ hT hi hzero ⟨b, 0, none⟩ xs.length cap cs (by rw [hr0.len, hsz]) (fun j u hj => by
     rw [Addr.add_mid, Nat.zero_add, jGy _ _ _ _ _ _ hb]
     have hjl := (List.getElem?_eq_some_iff.1 hj).1
     simp only [List.getElem?_toArray]
     rw [List.getElem?_append_left hjl]; exact hj) ⟨by_, offy, none⟩ ys.length capy cy hcyl hnews (by omega) (by omega) (growslice_fits (by omega) hbytes)
    rw [hrun _ _ (by rw [hxval, hyval]; exact hr)]
    have hst' := hst.newArr E d (grownCap w (xs.length + ys.length) cap E) hr0 hcy (grownCap_ge w _ cap E)
    refine hnext _ h _ _ (Hle.refl h) trivial hst' ?_
    rw [hd]
    exact jDa hne (.inr ⟨_, _, by rw [jQ2 (hdn d hd), List.length_append], by rw [List.length_append]; exact grownCap_ge w _ cap E, rfl⟩)
theorem jS3 {T E : TypeId} {r : Rep α} {s d : Nat} {x y : Operand} {xs ys zs : List α} (hz : app xs ys = some zs) (el : jCh P E r) (hT : P.underlying T = some (.slice E)) (hsd : Nat.beq s d = false) (hd : o.dst = some d)
  (ho : o.op = .call { callee := .builtin .append, args := #[x, y], argTypes := #[T, T] }) (hx : jQq N x (fCp s)) (hy : jQq N y (fV (Rep.slice r) ys)) :
  jXy P o N [(s, jKg E r xs)] jJs.triv [(s, none), (d, some (jKg E r zs))] := qJ2 hz el hT hsd hd ho (qV2.cp hx) hy
theorem At.freeze {κ : Type} {B : Base} {h0 : H} {Γ : Ctx} {Λ : Own} {F : κ → Option Ent} {n : Nat} {a : Act} {w : World} {E : TypeId} {r : Rep α} {xs : List α} (s : Nat) (hAt : At B h0 Γ Λ F n a w) (hs : Λ s = some (jKg E r xs)) :
    At B h0 (fun k => bif Nat.beq s k then fV (Rep.slice r) xs else Γ k) (fun k => bif Nat.beq s k then none else Λ k) F n a w := by
  obtain ⟨h, L, hle, hst, hOw, hsat, hsz, hdf⟩ := hAt
  obtain ⟨e, hL, ⟨⟨base, hv⟩, rfl, rfl⟩ | ⟨b, cap, hv, hc, rfl⟩⟩ := hOw s _ hs
  · refine ⟨h, L, hle, hst, fun k q hq => ?_, fun k => ?_, hsz, hdf⟩
    · cases hk : Nat.beq s k with
      | true => simp only [hk, cond_true] at hq; cases hq
      | false => simp only [hk, cond_false] at hq; exact hOw k q hq
    · cases hk : Nat.beq s k with
      | true =>
        rw [jWx] at hk; subst hk
        show jJs.at (bif Nat.beq s s then _ else _) _ _ _
        rw [jWx.2 rfl]
        exact jVg.2 (.inl ⟨⟨base, hv⟩, rfl⟩)
      | false =>
        show jJs.at (bif Nat.beq s k then _ else _) _ _ _
        rw [hk]; exact hsat k
  obtain ⟨_, cs, rest, hb, hr, hlen⟩ := hst.own (k := Sum.inl s) hL
  have hb' : w.heap[b]? = some (.cells (cs ++ rest).toArray E (0, 0)) := hb
  obtain ⟨hl2, hst2⟩ := hst.freeze (Sum.inl s) (e := jUr b E r xs cap) hL (b := b) (lo := 0) (by simp [jUr]) hb' cs.length (by simp) (L' := Sum.elim (fun k => if k = s then none else L k) F) (by
    intro k' e' hne he
    cases k' with
    | inr k => exact he
    | inl k =>
      have : k ≠ s := fun x => hne (by rw [x])
      simpa [this] using he) (fun e' he => by simp at he)
  have htk : (cs ++ rest).toArray.toList.take cs.length = cs := by simp
  rw [htk] at hl2 hst2
  refine ⟨_, _, hle.trans hl2, hst2, ?_, ?_, hsz, hdf⟩
  · intro k q hq
    cases hk : Nat.beq s k with
    | true => simp only [hk, cond_true] at hq; cases hq
    | false =>
      simp only [hk, cond_false] at hq
      obtain ⟨e, he, hqe⟩ := hOw k q hq
      have : k ≠ s := fun x => by rw [jWx.2 x.symm] at hk; cases hk
      exact ⟨e, by simp [this, he], hqe⟩
  · intro k
    cases hk : Nat.beq s k with
    | true =>
      rw [jWx] at hk; subst hk
      show jJs.at (bif Nat.beq s s then _ else _) _ _ _
      rw [jWx.2 rfl]
      refine jVg.2 (.inr ⟨b, 0, cap, hv, hc, (hr.mono hl2).refs fun j v hj => ?_, fun _ => hst.mo (k := Sum.inl s) hL (c := (b, 0)) (by simp [jUr])⟩)
      have hjl := (List.getElem?_eq_some_iff.1 hj).1
      rw [Nat.zero_add, jGk hjl, ← hj, List.getElem?_eq_getElem hjl]
    | false =>
      show jJs.at (bif Nat.beq s k then _ else _) _ _ _
      rw [hk]
      exact (Γ k).mono hl2 (hsat k)

def slc (xs : List α) (lo hi : Int) : Option (List α) := bif decide (0 ≤ lo) && decide (lo ≤ hi) && decide (hi ≤ xs.length) then some ((xs.take hi.toNat).drop lo.toNat) else none
theorem jAm {xs ys : List α} {lo hi : Int} (h : slc xs lo hi = some ys) : 0 ≤ lo ∧ lo ≤ hi ∧ hi ≤ xs.length ∧ ys = (xs.take hi.toNat).drop lo.toNat := by
 unfold slc at h
 cases hb : (decide (0 ≤ lo) && decide (lo ≤ hi) && decide (hi ≤ xs.length)) with
 | true => rw [hb] at h; cases h; simp at hb; exact ⟨hb.1.1, hb.1.2, hb.2, rfl⟩
 | false => rw [hb] at h; cases h
def jS2 (N : List (Nat × jJs)) (dflt : Int) : Option Operand → Int → Prop
 | none, n => n = dflt
 | some x, n => ∃ k, jQq N x (fV (Rep.int k) n)
theorem qK4 {N : List (Nat × jJs)} {d : Int} : jS2 N d none d := rfl
theorem qUu {N : List (Nat × jJs)} {d n : Int} {k : IntKind} {x : Operand} (h : jQq N x (fV (Rep.int k) n)) : jS2 N d (some x) n := ⟨k, h⟩
theorem qX6 {T E : TypeId} {r : Rep α} {h : H} {a : Act} {w : World} {lo hi : Option Operand} {l m : Int} {len cap : Nat} {base : Option Addr} (hT : P.underlying T = some (.slice E)) (t : jK9 P E r) (hn : jPw N h a) (hl : jS2 N 0 lo l) (hm : jS2 N len hi m)
  (h0 : 0 ≤ l) (h1 : l ≤ m) (h2 : m ≤ len) (hc : len ≤ cap) :
  (Instr.sliceAt T (.slice base len cap) (lo.map a.eval) (hi.map a.eval) none).run P w = .ok (.slice (if cap = l.toNat then base else base.map (·.add (l.toNat * r.sz))) (m.toNat - l.toNat) (cap - l.toNat)) w := by
 have hmc : 0 ≤ m ∧ m ≤ (cap : Int) := by omega
 have hlm : 0 ≤ l ∧ l ≤ ((m.toNat : Nat) : Int) := by omega
 have hll : 0 ≤ l ∧ l ≤ (len : Int) := by omega
 cases lo with
 | none =>
  have hl : l = 0 := hl
  subst hl
  cases hi with
  | none =>
   have hm : m = len := hm
   subst hm
   simp [Instr.sliceAt, Instr.slice, run_underlying hT, Instr.sliceBounds, t.size]
  | some y =>
   obtain ⟨k, hy⟩ := hm
   simp [Instr.sliceAt, Instr.slice, run_underlying hT, Instr.sliceBounds, Instr.sliceBound, asIntOf, jXu.1 (hy h a hn), hmc, t.size]
 | some x =>
  obtain ⟨k', hx⟩ := hl
  cases hi with
  | none =>
   have hm : m = len := hm
   subst hm
   simp [Instr.sliceAt, Instr.slice, run_underlying hT, Instr.sliceBounds, Instr.sliceBound, asIntOf, jXu.1 (hx h a hn), hll, t.size]
  | some y =>
   obtain ⟨k, hy⟩ := hm
   simp [Instr.sliceAt, Instr.slice, run_underlying hT, Instr.sliceBounds, Instr.sliceBound, asIntOf, jXu.1 (hy h a hn), jXu.1 (hx h a hn), hmc, hlm, t.size]; omega
theorem jBj.cut {r : Rep α} {h : H} {v : Value} {xs : List α} {base : Option Addr} {cap : Nat} {l m : Nat} (k : jBj r h v xs) (hv : v = .slice base xs.length cap) (h1 : l ≤ m) (h2 : m ≤ xs.length) :
  jBj r h (.slice (if cap = l then base else base.map (·.add (l * r.sz))) (m - l) (cap - l)) ((xs.take m).drop l) := by
 have hlen : ((xs.take m).drop l).length = m - l := by rw [List.length_drop, List.length_take]; omega
 rcases k with ⟨⟨base', rfl⟩, rfl⟩ | ⟨b, off, cap', rfl, hc, hr, hm⟩
 ·cases hv
  have : m = 0 := by simpa using h2
  subst this
  have : l = 0 := by omega
  subst this
  exact .inl ⟨⟨base, by simp⟩, by simp⟩
 ·cases hv
  refine .inr ⟨b, if cap = l then off else off + l * r.sz, cap - l, ?_, ?_, ?_, hm⟩
  ·rw [hlen]
   split
   ·rfl
   ·simp [Addr.add_mid]
  ·rw [hlen]; omega
  ·intro i x hx
   rw [List.getElem?_drop, List.getElem?_take] at hx
   split at hx
   ·rename_i hlt
    have := hr _ _ hx
    rw [if_neg (by omega)]
    rwa [show off + l * r.sz + i * r.sz = off + (l + i) * r.sz by rw [Nat.add_mul, Nat.add_assoc]]
   ·cases hx
theorem ok_slice {T E : TypeId} {r : Rep α} {x : Operand} {lo hi : Option Operand} {xs ys : List α} {l m : Int} (hq : slc xs l m = some ys) (t : jK9 P E r) (hT : P.underlying T = some (.slice E)) (ho : o.op = .slice T x lo hi none)
  (hx : jQq N x (fV (Rep.slice r) xs)) (hl : jS2 N 0 lo l) (hm : jS2 N xs.length hi m) : jXy P o N [] (fV (Rep.slice r) ys) [] :=
 jXy.ofRun fun h a w _ n => by
  obtain ⟨h0, h1, h2, rfl⟩ := jAm hq
  have k := jVg.1 (hx h a n)
  obtain ⟨base, cap, hv, hc⟩ := k.le
  have hrun := qX6 (w := w) (base := base) hT t n hl hm h0 h1 h2 hc
  refine ⟨_, by simp only [execOp, ho, hv, Option.map_none, Sem.run_bind, hrun, Result.andThen_ok, Sem.run_pure], jVg.2 (k.cut hv (by omega) (by omega))⟩
end Go.KB
namespace Go.KB
variable {P : Program} {o : Oper} {N : List (Nat × jJs)} {f : jJs} {α β : Type}
theorem size_mk (s : Str) : ByteArray.size ⟨s.toArray⟩ = s.length := rfl
theorem jHg {T : TypeId} {k : IntKind} {x i : Operand} {s : Str} {n : Int} {c : UInt8} (hq : idx s n = some c) (hT : P.underlying T = some .string) (ho : o.op = .index T x i) (hx : jQq N x (fV Rep.str s)) (hi : jQq N i (fV (Rep.int k) n)) :
  jXy P o N [] (fV (Rep.int .u8) (c.toNat : Int)) [] :=
 jXy.ofRun fun h a w _ q => by
  obtain ⟨h0, h1, h2⟩ := jUk hq
  refine ⟨.int .u8 (c.toNat : Int), ?_, jXu.2 rfl⟩
  have hc : (⟨s.toArray⟩ : ByteArray)[n.toNat]? = some c := by
   have : n.toNat < (⟨s.toArray⟩ : ByteArray).size := h1
   rw [getElem?_pos (⟨s.toArray⟩ : ByteArray) n.toNat this]
   have e : s[n.toNat]? = some s[n.toNat] := List.getElem?_eq_getElem h1
   rw [e] at h2; cases h2
   rfl
  simp [execOp, ho, jZe.1 (hx h a q), jXu.1 (hi h a q), Instr.index, asIntOf, run_underlying hT, h0, hc]
def jVh (op : BinOp) (a b : Str) : Bool :=
 match op with
 | .eql => a == b | .neq => !(a == b) | .lss => Op.bytesLess a b | .leq => (Op.bytesLess a b || a == b) | .gtr => !(Op.bytesLess a b || a == b) | _ => !(Op.bytesLess a b)
theorem jUw {op : BinOp} {T T' : TypeId} {x y : Operand} {s t : Str} {b : Bool} (hop : op = .eql ∨ op = .neq ∨ op = .lss ∨ op = .leq ∨ op = .gtr ∨ op = .geq) (hb : jVh op s t = b) (ho : o.op = .binOp op T x y T')
  (hx : jQq N x (fV Rep.str s)) (hy : jQq N y (fV Rep.str t)) : jXy P o N [] (fV Rep.bool b) [] :=
 jXy.ofRun fun h a w _ q => by
  subst hb
  refine ⟨.bool (jVh op s t), ?_, jXt.2 rfl⟩
  rcases hop with rfl | rfl | rfl | rfl | rfl | rfl <;>
   simp [execOp, ho, jZe.1 (hx h a q), jZe.1 (hy h a q), binOp, Op.stringOp, eqGuard, jVh]
def qGq (a b : Str) : Option Str := bif Nat.ble (a.length + b.length) lim then some (a ++ b) else none
theorem jCd {T T' : TypeId} {x y : Operand} {s t u : Str} (hq : qGq s t = some u) (ho : o.op = .binOp .add T x y T') (hx : jQq N x (fV Rep.str s)) (hy : jQq N y (fV Rep.str t)) : jXy P o N [] (fV Rep.str u) [] :=
 jXy.ofRun fun h a w _ q => by
  unfold qGq at hq
  cases hb : Nat.ble (s.length + t.length) lim with
  | false => rw [hb] at hq; cases hq
  | true =>
   rw [hb] at hq; cases hq
   have hl := Nat.le_of_ble_eq_true hb
   refine ⟨.string ⟨(s ++ t).toArray⟩, ?_, jZe.2 rfl⟩
   have hle : ¬ (((ByteArray.size ⟨s.toArray⟩ + ByteArray.size ⟨t.toArray⟩ : Nat) : Int) > IntKind.i64.max) := by
    rw [size_mk, size_mk]
    have : IntKind.i64.max = 9223372036854775807 := rfl
    unfold lim at hl; omega
   have he : (⟨s.toArray⟩ : ByteArray) ++ ⟨t.toArray⟩ = ⟨(s ++ t).toArray⟩ := by
    apply ByteArray.ext
    rw [ByteArray.data_append]
    simp
   simp only [execOp, ho, jZe.1 (hx h a q), jZe.1 (hy h a q), binOp, Op.stringOp, eqGuard_add, Sem.run_bind, Sem.run_pure, Result.andThen_ok]
   rw [if_neg hle, he]
   rfl
theorem jBu {T : TypeId} {x : Operand} {lo hi : Option Operand} {s t : Str} {l m : Int} (hq : slc s l m = some t) (hT : P.underlying T = some .string) (ho : o.op = .slice T x lo hi none) (hx : jQq N x (fV Rep.str s)) (hl : jS2 N 0 lo l) (hm : jS2 N s.length hi m) : jXy P o N [] (fV Rep.str t) [] :=
 jXy.ofRun fun h a w _ n => by
  obtain ⟨h0, h1, h2, rfl⟩ := jAm hq
  have he : ByteArray.extract ⟨s.toArray⟩ l.toNat m.toNat = ⟨(List.drop l.toNat (List.take m.toNat s)).toArray⟩ := by
   apply ByteArray.ext
   rw [ByteArray.data_extract]
   apply Array.ext'
   rw [Array.toList_extract, List.drop_take]
  refine ⟨.string ⟨(List.drop l.toNat (List.take m.toNat s)).toArray⟩, ?_, jZe.2 rfl⟩
  rw [← he]
  have hmc : 0 ≤ m ∧ m ≤ ((ByteArray.size ⟨s.toArray⟩ : Nat) : Int) := ⟨by omega, by rw [size_mk]; exact h2⟩
  have hlm : 0 ≤ l ∧ l ≤ ((m.toNat : Nat) : Int) := by omega
  have hll : 0 ≤ l ∧ l ≤ ((ByteArray.size ⟨s.toArray⟩ : Nat) : Int) := ⟨h0, by rw [size_mk]; omega⟩
  have hv := jZe.1 (hx h a n)
  have key : (Instr.sliceAt T (.string ⟨s.toArray⟩) (lo.map a.eval) (hi.map a.eval) none).run P w = .ok (.string (ByteArray.extract ⟨s.toArray⟩ l.toNat m.toNat)) w := by
   cases lo with
   | none =>
    have hl : l = 0 := hl
    subst hl
    cases hi with
    | none =>
     have hm : m = s.length := hm
     subst hm
     simp [Instr.sliceAt, Instr.slice, run_underlying hT, Instr.sliceBounds]
     simp at he
     exact he.symm
    | some y =>
     obtain ⟨k, hy⟩ := hm
     simp [Instr.sliceAt, Instr.slice, run_underlying hT, Instr.sliceBounds, Instr.sliceBound, asIntOf, jXu.1 (hy h a n), hmc]
   | some x =>
    obtain ⟨k', hx⟩ := hl
    cases hi with
    | none =>
     have hm : m = s.length := hm
     subst hm
     simp [Instr.sliceAt, Instr.slice, run_underlying hT, Instr.sliceBounds, Instr.sliceBound, asIntOf, jXu.1 (hx h a n), hll, size_mk]
     omega
    | some y =>
     obtain ⟨k, hy⟩ := hm
     simp [Instr.sliceAt, Instr.slice, run_underlying hT, Instr.sliceBounds, Instr.sliceBound, asIntOf, jXu.1 (hy h a n), jXu.1 (hx h a n), hmc, hlm]
     omega
  simp only [execOp, ho, hv, Option.map_none, Sem.run_bind]
  rw [key]; rfl
end Go.KB
namespace Go.KB
variable {ρ : Option Nat} {P : Program} {κ : Type} {B : Base} {h0 : H} {Γ : Ctx} {Λ : Own} {F : κ → Option Ent} {n : Nat} {a : Act} {w : World} {Q : Exit → Act → World → Prop}
theorem wp_mono {c : Code} {Q' : Exit → Act → World → Prop} (h : c.wpK ρ P Q a w) (hq : ∀ e a w, Q e a w → Q' e a w) : c.wpK ρ P Q' a w := wpIn_mono h hq
theorem wp_skip (h : Q .normal a w) : Code.skip.wpK ρ P Q a w := wpIn_skip h
theorem wp_exit {id : Nat} (h : Q (.exit id) a w) : (Code.exit id).wpK ρ P Q a w := wpIn_exit h
theorem wp_ret (h : Q .ret a w) : Code.ret.wpK ρ P Q a w := wpIn_ret h
theorem wp_seq {x y : Code} (h : x.wpK ρ P (Exit.then (y.wpK ρ P Q) Q) a w) : (Code.seq x y).wpK ρ P Q a w := wpIn_seq h
theorem wp_block {id : Nat} {c : Code} (h : c.wpK ρ P (Exit.inBlock id Q) a w) : (Code.block id c).wpK ρ P Q a w := wpIn_block h
theorem wp_cond_split {c : Operand} {x y : Code} {t : Bool} (hc : a.eval c = .bool t) (ht : t = true → x.wpK ρ P Q a w) (hf : t = false → y.wpK ρ P Q a w) : (Code.cond c x y).wpK ρ P Q a w := wpIn_cond_split hc ht hf
def IdleD (P : Program) (d : Deferred) (w : World) : Prop :=
 ∃ fv cap f args, d.target = .fn fv cap ∧ (invoke d.target d.args).run P w = .ok (.enter f args) w ∧ CallsDIn (rdF none) 0 P f args .returning w fun e u' w' => e = .returned (.tuple #[]) ∧ u' = .returning ∧ w' = w
def jR2 (P : Program) (fn : Func) (R : Ending → World → Prop) : Exit → Act → World → Prop
 | .normal, a, w | .ret, a, w => (a.defers = [] ∧ ∃ v, (results fn a.tmps).run P w = .ok v w ∧ R (.returned v) w) ∨
   (∃ D w', a.defers = [{ target := .collected D, args := #[] }] ∧ (Instr.takeDeferred D).run P w = .ok [] w' ∧ ∃ v, (results fn a.tmps).run P w' = .ok v w' ∧ R (.returned v) w') ∨
   ∃ d, a.defers = [d] ∧ IdleD P d w ∧ ∃ v, (results fn a.tmps).run P w = .ok v w ∧ R (.returned v) w
 | _, _, _ => False
theorem jR2.mono {fn : Func} {R R' : Ending → World → Prop} (hR : ∀ e w, R e w → R' e w) {e : Exit} {a : Act} {w : World} (h : jR2 P fn R e a w) : jR2 P fn R' e a w := by
  cases e <;> first
    | exact h.elim
    | (rcases h with ⟨h1, v, h2, h3⟩ | ⟨D, w', h1, h2, v, h3, h4⟩ | ⟨d, h1, h2, v, h3, h4⟩
       · exact .inl ⟨h1, v, h2, hR _ _ h3⟩
       · exact .inr (.inl ⟨D, w', h1, h2, v, h3, hR _ _ h4⟩)
       · exact .inr (.inr ⟨d, h1, h2, v, h3, hR _ _ h4⟩))
theorem jDn {f : FuncId} {fn : Func} {c : Code} {args : Array Value} {w : World} {R R' : Ending → World → Prop} {X : Prop} (hX : X) (hf : P.funcs[f]? = some fn) (hb : fn.body = some c)
    (h : c.wpK none P (fun e a w => X → jR2 P fn R' e a w) { tmps := args ++ Array.replicate (fn.ntmps - args.size) undef, defers := [] } w) (hR : ∀ e w, R' e w → R e w) : Calls P f args w R := by
  refine jNa.1 (callsIn_of_wp_marks (F := rdF none) (n := 0) hf hb trivial (wpIn_mono h ?_))
  intro e a w hq
  have hq := (hq hX).mono hR
  cases e <;> first
    | exact hq.elim
    | (rcases hq with ⟨h1, v, h2, h3⟩ | ⟨D, w', h1, h2, v, h3, h4⟩ | ⟨d, h1, ⟨fv, cap, f', args', h5, h6, h7⟩, v, h2, h3⟩
       · simp only [bodyPostM]; rw [h1]; exact ⟨v, h2, h3⟩
       · simp only [bodyPostM]; rw [h1]; exact ⟨by simp, .inl ⟨D, w', rfl, h2, v, h3, h4⟩⟩
       · simp only [bodyPostM]; rw [h1]
         refine ⟨by simp, .inr ⟨fun x => absurd x (by simp [rdF]), fv, cap, f', args', h5, h6, fun _ _ => trivial, h7.mono ?_⟩⟩
         rintro e u' w' ⟨rfl, rfl, rfl⟩
         exact ⟨v, h2, h3⟩)

theorem At.less {Γ' : Ctx} {Λ' : Own} (x : At B h0 Γ Λ F n a w) (hG : ∀ s, Γ' s = Γ s ∨ Γ' s = jJs.triv) (hO : ∀ s, Λ' s = Λ s ∨ Λ' s = none) : At B h0 Γ' Λ' F n a w := by
 obtain ⟨h, L, hle, hst, hOw, hsat, r⟩ := x
 refine ⟨h, L, hle, hst, ?_, ?_, r⟩
 ·intro s q hq
  rcases hO s with h1 | h1 <;> rw [h1] at hq
  ·exact hOw s q hq
  ·cases hq
 ·intro s
  rcases hG s with h1 | h1 <;> rw [h1]
  ·exact hsat s
  ·exact trivial
def jNd (Γ : Ctx) : List Nat → List (Nat × jJs)
 | [] => []
 | s :: r => (s, Γ s) :: jNd Γ r
def jMd (Λ : Own) : List Nat → List (Nat × jXa)
 | [] => []
 | s :: r => match Λ s with | some e => (s, e) :: jMd Λ r | none => jMd Λ r
theorem qW5 (Γ : Ctx) (l : List Nat) (s : Nat) : mkG (jNd Γ l) s = Γ s ∨ mkG (jNd Γ l) s = jJs.triv := by
 induction l with
 | nil => exact .inr rfl
 | cons x r ih =>
  simp only [mkG, jNd, lkF] at ih ⊢
  cases hb : Nat.beq x s with
  | true => rw [jWx] at hb; subst hb; exact .inl rfl
  | false => exact ih
theorem qW4 (Λ : Own) (l : List Nat) (s : Nat) : mkO (jMd Λ l) s = Λ s ∨ mkO (jMd Λ l) s = none := by
 induction l with
 | nil => exact .inr rfl
 | cons x r ih =>
  simp only [mkO, jMd] at ih ⊢
  cases hl : Λ x with
  | none => exact ih
  | some e =>
   simp only [lkO]
   cases hb : Nat.beq x s with
   | true => rw [jWx] at hb; subst hb; exact .inl hl.symm
   | false => exact ih
theorem At.pick (x : At B h0 Γ Λ F n a w) (l m : List Nat) : At B h0 (mkG (jNd Γ l)) (mkO (jMd Λ m)) F n a w := x.less (qW5 Γ l) (qW4 Λ m)
theorem At.fact (x : At B h0 Γ Λ F n a w) (s : Nat) : ∃ h, Hle h0 h ∧ (Γ s).at h a s := let ⟨h, _, hl, _, _, hs, _⟩ := x; ⟨h, hl, hs s⟩
theorem At.bool {b : Bool} (x : At B h0 Γ Λ F n a w) (s : Nat) (hs : Γ s = fV Rep.bool b) : a.eval (.tmp s) = .bool b := by
 obtain ⟨h, _, hf⟩ := x.fact s
 rw [hs] at hf
 exact jXt.1 hf
theorem jJ4 {s : Nat} {b : Bool} {x y : Code} (hAt : At B h0 Γ Λ F n a w) (hs : Γ s = fV Rep.bool b) (ht : b = true → x.wpK ρ P Q a w) (hf : b = false → y.wpK ρ P Q a w) : (Code.cond (.tmp s) x y).wpK ρ P Q a w :=
 wp_cond_split (hAt.bool s hs) ht hf
def jZq {S O : Type} (f : S → Option (S ⊕ O)) : Nat → S → Option O
 | 0, _ => none
 | n + 1, s => match f s with
  | none => none
  | some (.inl s') => jZq f n s'
  | some (.inr o) => some o
theorem jXv {S O : Type} {f : S → Option (S ⊕ O)} {body : Code} (Inv : S → Act → World → Prop) (Post : O → Exit → Act → World → Prop)
  (hb : ∀ s r a w, f s = some r → Inv s a w → body.wpK ρ P (fun e a' w' => match r with | .inl s' => e = .normal ∧ Inv s' a' w' | .inr o => e ≠ .normal ∧ Post o e a' w') a w) :
  ∀ (N : Nat) (s : S) (o : O) (a : Act) (w : World), jZq f N s = some o → Inv s a w → (Code.loop body).wpK ρ P (Post o) a w := by
 intro N s o a w hl hI b k cs hro hbf hrm
 have key : ∀ N s a w, jZq f N s = some o → Inv s a w →
   ∃ e a' w', Post o e a' w' ∧ ArrivesIn (Machine.fenced P (rdF ρ)) P (lone (b.atR a (.code body :: .inLoop body :: k)) cs w) b k cs e a' w' := by
  intro N
  induction N with
  | zero => intro s a w h; cases h
  | succ N ih =>
   intro s a w h hI
   simp only [jZq] at h
   cases hr : f s with
   | none => rw [hr] at h; cases h
   | some r =>
    rw [hr] at h
    obtain ⟨e, a₁, w₁, hq, harr⟩ := hb s r a w hr hI b (.inLoop body :: k) cs hro hbf hrm
    cases r with
    | inl s' =>
     obtain ⟨rfl, hI'⟩ := hq
     obtain ⟨e₂, a₂, w₂, hq₂, harr₂⟩ := ih s' a₁ w₁ h hI'
     exact ⟨e₂, a₂, w₂, hq₂, .of_steps (StepsIn.trans harr (.one (fenced_calm hbf hrm rfl) stepR_inLoop)) harr₂⟩
    | inr o' =>
     cases h
     obtain ⟨hne, hp⟩ := hq
     exact ⟨e, a₁, w₁, hp, .pass (x := .inLoop body) rfl (fun _ _ => .inl hne) harr⟩
 obtain ⟨e, a', w', hq, harr⟩ := key N s a w hl hI
 exact ⟨e, a', w', hq, .of_steps (.one (fenced_calm hbf hrm rfl) stepR_loop) harr⟩
theorem jJ1 {X Y : Type} {m : Option X} {k : X → Option Y} {r : Y} (h : m.bind k = some r) : ∃ x, m = some x ∧ k x = some r := by
 cases m with
 | none => cases h
 | some x => exact ⟨x, rfl, h⟩
theorem jQs {X : Type} {b : Bool} {x y r : X} (hb : b = true) (h : (bif b then x else y) = r) : x = r := by subst hb; exact h
theorem jXj {X : Type} {b : Bool} {x y r : X} (hb : b = false) (h : (bif b then x else y) = r) : y = r := by subst hb; exact h
def jY8 : List jJs → Bool
 | [] => true
 | f :: r => f.dep.isNone && jY8 r
theorem jYr : ∀ {l : List jJs}, jY8 l = true → ∀ g ∈ l, g.dep = none := by
 intro l
 induction l with
 | nil => intro _ g h; cases h
 | cons f r ih =>
  intro h g hg
  simp only [jY8, Bool.and_eq_true] at h
  rcases List.mem_cons.1 hg with rfl | hg
  ·cases hx : g.dep with
   | none => rfl
   | some d => rw [hx] at h; cases h.1
  ·exact ih h.2 g hg
def FnOk (P : Program) (f : FuncId) (args : List jJs) (post : jJs) : Prop :=
 ∀ (κ : Type) (B : Base) (L : κ → Option Ent) (h : H) (w : World) (vs : List Value), St B h L w → args.length = vs.length → (∀ (i : Nat) (g : jJs) (v : Value), args[i]? = some g → vs[i]? = some v → g.p h undef v) →
  Calls P f vs.toArray w (fun e w' => ∃ v h', e = .returned v ∧ Hle h h' ∧ St B h' L w' ∧ post.p h' undef v)
def jC0 (P : Program) (fn : Func) {κ : Type} (B : Base) (h0 : H) (F : κ → Option Ent) (post : jJs) : Exit → Act → World → Prop :=
 fun e a w => B.df = [] → jR2 P fn (fun e w' => ∃ v h', e = .returned v ∧ Hle h0 h' ∧ St B h' F w' ∧ post.p h' undef v) e a w
def jA7 : Nat → List jJs → List (Nat × jJs)
 | _, [] => []
 | i, f :: r => (i, f) :: jA7 (i + 1) r
theorem jM3 : ∀ (l : List jJs) (i s : Nat), lkF (jA7 i l) s = jJs.triv ∨ ∃ j f, l[j]? = some f ∧ s = i + j ∧ lkF (jA7 i l) s = f := by
 intro l
 induction l with
 | nil => intro i s; exact .inl rfl
 | cons f r ih =>
  intro i s
  simp only [jA7, lkF]
  cases hb : Nat.beq i s with
  | true => rw [jWx] at hb; subst hb; exact .inr ⟨0, f, rfl, rfl, rfl⟩
  | false =>
   rcases ih (i + 1) s with h1 | ⟨j, g, h1, h2, h3⟩
   ·exact .inl h1
   ·exact .inr ⟨j + 1, g, h1, by omega, h3⟩
theorem St.sumNone {h : H} (s : St B h F w) : St B h (Sum.elim (fun _ : Nat => (none : Option Ent)) F) w := by
 refine ⟨s.low, s.base, fun x => s.ext x, ?_, ?_, s.mark, fun x i y => s.nf x i y⟩
 ·intro k e hk
  cases k with
  | inl k => cases hk
  | inr k => exact s.own hk
 ·intro k k' e e' hk hk' hne
  cases k with
  | inl k => cases hk
  | inr k => cases k' with
   | inl k' => cases hk'
   | inr k' => exact s.disj hk hk' (fun e => hne (by rw [e]))
theorem St.right {h : H} {L : Nat → Option Ent} (s : St B h (Sum.elim L F) w) : St B h F w :=
 s.reind Sum.inr (fun _ _ x => x) (fun _ _ _ _ _ _ n e => n (Sum.inr.inj e))
theorem jQ3 {f : FuncId} {fn : Func} {c : Code} {args : List jJs} {post : jJs} (hf : P.funcs[f]? = some fn) (hb : fn.body = some c) (hn : fn.ntmps = n) (hchk : (Nat.ble args.length n && jY8 args) = true)
  (hwp : ∀ (κ : Type) (B : Base) (h0 : H) (F : κ → Option Ent) (a : Act) (w : World), At B h0 (mkG (jA7 0 args)) (mkO []) F n a w → c.wpK none P (jC0 P fn B h0 F post) a w) : FnOk P f args post := by
 intro κ B L h w vs hst hl hargs
 rw [Bool.and_eq_true, Nat.ble_eq] at hchk
 obtain ⟨hlen, hdp⟩ := hchk
 have hdep := jYr hdp
 refine jDn rfl hf hb (hwp _ B.e h L _ w ⟨h, fun _ => none, Hle.refl h, (St.sumNone hst).toE, fun s q hq => (by cases hq), ?_, ?_, rfl⟩) (fun _ _ ⟨v, h', he, hl, hs, hp⟩ => ⟨v, h', he, hl, hs.ofE, hp⟩)
 ·intro s
  rcases jM3 args 0 s with h1 | ⟨j, g, h1, h2, h3⟩
  ·show (lkF (jA7 0 args) s).at _ _ _; rw [h1]; exact trivial
  ·show (lkF (jA7 0 args) s).at _ _ _; rw [h3]
   have hj := (List.getElem?_eq_some_iff.1 h1).1
   have hv : vs[j]? = some vs[j] := List.getElem?_eq_getElem (by omega)
   have := hargs j g _ h1 hv
   unfold jJs.at jJs.dv
   rw [hdep g (List.mem_of_getElem? h1)]
   have he : Act.gt { tmps := vs.toArray ++ Array.replicate (fn.ntmps - vs.toArray.size) undef, defers := [] } s = vs[j] := by
    rw [h2, Nat.zero_add]
    simp only [Act.gt, Array.getD_eq_getD_getElem?]
    rw [Array.getElem?_append_left (by simp; omega)]
    simp [hv]
   rw [he]; exact this
 ·simp; omega
def fT0 : jJs := ⟨none, fun _ _ v => v = .tuple #[], fun _ x => x⟩
def fT2 (f g : jJs) : jJs := ⟨none, fun h _ v => ∃ x y, v = .tuple #[x, y] ∧ f.p h undef x ∧ g.p h undef y, fun hl ⟨x, y, e, a, b⟩ => ⟨x, y, e, f.mono hl a, g.mono hl b⟩⟩
def fT3 (f g i : jJs) : jJs := ⟨none, fun h _ v => ∃ x y z, v = .tuple #[x, y, z] ∧ f.p h undef x ∧ g.p h undef y ∧ i.p h undef z, fun hl ⟨x, y, z, e, a, b, c⟩ => ⟨x, y, z, e, f.mono hl a, g.mono hl b, i.mono hl c⟩⟩
section
variable {o : Oper} {N : List (Nat × jJs)} {x : Operand} {f g i : jJs}
theorem jZ7 (hd : f.dep = none) (ho : o.op = .extract x 0) (hx : jQq N x (fT2 f g)) : jXy P o N [] f [] :=
 jXy.ofRun fun h a w _ q => by
  obtain ⟨u, v, e, p1, _⟩ := hx h a q
  exact ⟨u, by simp [execOp, ho, e, Instr.extract], by unfold jJs.dv; rw [hd]; exact p1⟩
theorem jZy (hd : g.dep = none) (ho : o.op = .extract x 1) (hx : jQq N x (fT2 f g)) : jXy P o N [] g [] :=
 jXy.ofRun fun h a w _ q => by
  obtain ⟨u, v, e, _, p2⟩ := hx h a q
  exact ⟨v, by simp [execOp, ho, e, Instr.extract], by unfold jJs.dv; rw [hd]; exact p2⟩
theorem jLh (hd : f.dep = none) (ho : o.op = .extract x 0) (hx : jQq N x (fT3 f g i)) : jXy P o N [] f [] :=
 jXy.ofRun fun h a w _ q => by
  obtain ⟨u, v, z, e, p1, _⟩ := hx h a q
  exact ⟨u, by simp [execOp, ho, e, Instr.extract], by unfold jJs.dv; rw [hd]; exact p1⟩
theorem jHe (hd : g.dep = none) (ho : o.op = .extract x 1) (hx : jQq N x (fT3 f g i)) : jXy P o N [] g [] :=
 jXy.ofRun fun h a w _ q => by
  obtain ⟨u, v, z, e, _, p2, _⟩ := hx h a q
  exact ⟨v, by simp [execOp, ho, e, Instr.extract], by unfold jJs.dv; rw [hd]; exact p2⟩
theorem jHt (hd : i.dep = none) (ho : o.op = .extract x 2) (hx : jQq N x (fT3 f g i)) : jXy P o N [] i [] :=
 jXy.ofRun fun h a w _ q => by
  obtain ⟨u, v, z, e, _, _, p3⟩ := hx h a q
  exact ⟨z, by simp [execOp, ho, e, Instr.extract], by unfold jJs.dv; rw [hd]; exact p3⟩
end
def resV (tmps : Array Value) : ResultVar → Sem Value
 | .tmp t => pure (tmps.getD t undef)
 | .cell a t => do loadVar t (← asAddr (tmps.getD a undef))
def jAe (P : Program) (Γ : Ctx) (Λ : Own) (rv : ResultVar) (g : jJs) : Prop :=
 ∀ (κ : Type) (B : Base) (F : κ → Option Ent) (h : H) (a : Act) (w : World), ∀ L, St B h (Sum.elim L F) w → jCm Λ L a → Sat Γ h a → ∃ v, (resV a.tmps rv).run P w = .ok v w ∧ g.p h undef v
theorem jJr {s : Nat} {g : jJs} (hd : g.dep = none) (hs : Γ s = g) : jAe P Γ Λ (.tmp s) g := by
 intro κ B F h a w L _ _ hsat
 have hf := hsat s
 rw [hs] at hf
 unfold jJs.at jJs.dv at hf
 rw [hd] at hf
 exact ⟨a.gt s, rfl, hf⟩
theorem jUc {α : Type} {r : Rep α} {x : α} {T : TypeId} {s : Nat} (t : jK9 P T r) (hs : Λ s = some (jJ6 T r x)) : jAe P Γ Λ (.cell s T) (fV r x) := by
 intro κ B F h a w L hst hOw hsat
 obtain ⟨e, hL, b, hv, rfl⟩ := hOw s _ hs
 obtain ⟨cs, hb, hrel⟩ := jPp hst hL
 obtain ⟨c, hc, hrun⟩ := jGd t (Lens.refl r) hb hrel
 refine ⟨pack r.agg c, ?_, c, hc, rfl⟩
 have hv' : a.tmps.getD s undef = .pointer (some ⟨b, 0, none⟩) := hv
 have hrun' : (loadVar T ⟨b, 0, none⟩).run P w = .ok (pack r.agg c) w := by simpa [Instr.loadAt, Instr.sureAddr] using hrun
 simp only [resV, hv', asAddr, Sem.run_bind, Sem.run_pure, Result.andThen_ok, hrun']
theorem jY5 (fn : Func) (tmps : Array Value) : results fn tmps = (do let vs ← fn.results.mapM (resV tmps); pure (if h : vs.size = 1 then vs[0] else .tuple vs)) := by
 unfold results
 congr 2
theorem jWe {fn : Func} {rv : ResultVar} {g : jJs} (hr : fn.results = #[rv]) (h1 : jAe P Γ Λ rv g) (hAt : At B h0 Γ Λ F n a w) : jC0 P fn B h0 F g .ret a w := by
 obtain ⟨h, L, hl, hst, hOw, hsat, _, hdf⟩ := hAt
 obtain ⟨v, hv, hp⟩ := h1 _ B F h a w L hst hOw hsat
 refine fun hB => .inl ⟨hdf.trans hB, v, ?_, v, h, rfl, hl, hst.right, hp⟩
 rw [jY5]; simp [hr, hv]
theorem jT1 {fn : Func} {rv rv' : ResultVar} {g g' : jJs} (hr : fn.results = #[rv, rv']) (h1 : jAe P Γ Λ rv g) (h2 : jAe P Γ Λ rv' g') (hAt : At B h0 Γ Λ F n a w) : jC0 P fn B h0 F (fT2 g g') .ret a w := by
 obtain ⟨h, L, hl, hst, hOw, hsat, _, hdf⟩ := hAt
 obtain ⟨v, hv, hp⟩ := h1 _ B F h a w L hst hOw hsat
 obtain ⟨v', hv', hp'⟩ := h2 _ B F h a w L hst hOw hsat
 refine fun hB => .inl ⟨hdf.trans hB, .tuple #[v, v'], ?_, _, h, rfl, hl, hst.right, v, v', rfl, hp, hp'⟩
 rw [jY5]; simp [hr, hv, hv']
def jD9 (fn : Func) : Bool := fn.body.isSome && !(fn.name == "runtime.NumGoroutine")
def jDd (N : List (Nat × jJs)) : List jJs → List Operand → Prop
 | [], [] => True
 | g :: gs, x :: xs => jQq N x g ∧ jDd N gs xs
 | _, _ => False
theorem jDd.spec {N : List (Nat × jJs)} : ∀ {gs : List jJs} {xs : List Operand}, jDd N gs xs → gs.length = xs.length ∧ ∀ (i : Nat) (g : jJs) (x : Operand), gs[i]? = some g → xs[i]? = some x → jQq N x g := by
 intro gs
 induction gs with
 | nil => intro xs h; cases xs with
  | nil => exact ⟨rfl, fun i g x h => by simp at h⟩
  | cons _ _ => exact h.elim
 | cons g gs ih =>
  intro xs h
  cases xs with
  | nil => exact h.elim
  | cons x xs =>
   obtain ⟨h1, h2⟩ := h
   obtain ⟨h3, h4⟩ := ih h2
   refine ⟨by simp [h3], fun i g' x' hg hx => ?_⟩
   cases i with
   | zero => cases hg; cases hx; exact h1
   | succ i => exact h4 i g' x' (by simpa using hg) (by simpa using hx)
theorem jNp {f : FuncId} {fn : Func} {args : List jJs} {post : jJs} {xs : Array Operand} {ts : Array TypeId} {N : List (Nat × jJs)} {o : Oper} (hc : FnOk P f args post) (hf : P.funcs[f]? = some fn) (hb : jD9 fn = true) (hd : jY8 (post :: args) = true)
  (ho : o.op = .call { callee := .value (.func f), args := xs, argTypes := ts }) (hargs : jDd N args xs.toList) : jXy P o N [] post [] := by
 intro κ B F L h a w hst hn _ _ next Q hnext _
 simp only [jD9, Bool.and_eq_true, Bool.not_eq_true'] at hb
 have hbody : fn.body ≠ none := by
  intro hx; rw [hx] at hb; cases hb.1
 have hname : fn.name ≠ "runtime.NumGoroutine" := by simpa using hb.2
 have hdp := jYr hd
 obtain ⟨hlen, hall⟩ := hargs.spec
 unfold Oper.wpK
 have : (execOp a.eval o).run P w = .ok (.enter f (xs.toList.map a.eval).toArray) w := by
  have e : (xs.toList.map a.eval).toArray = xs.map a.eval := by apply Array.ext'; simp
  rw [e]
  simp [execOp, ho, resolve, Act.eval, Deferred.ofValue, invoke, callFunc, hf, hname, hbody]
 rw [this, jNr]
 refine (hc _ B (Sum.elim L F) h w (xs.toList.map a.eval) hst (by rw [List.length_map]; exact hlen) ?_).mono ?_
 ·intro i g v hg hv
  rw [List.getElem?_map] at hv
  cases hx : xs.toList[i]? with
  | none => rw [hx] at hv; cases hv
  | some x =>
   rw [hx] at hv; cases hv
   have := hall i g x hg hx h a hn
   unfold jJs.dv at this
   rw [hdp g (List.mem_cons_of_mem _ (List.mem_of_getElem? hg))] at this
   exact this
 ·rintro e w' ⟨v, h', rfl, hl, hst', hp⟩
  refine hnext v h' w' L hl ?_ hst' jYc
  unfold jJs.dv
  rw [hdp post List.mem_cons_self]
  exact hp
end Go.KB
namespace Go.KB
def jB5 (n : Nat) : List Oper → Bool
 | [] => true
 | o :: os => (match o.dst with | some d => Nat.blt d n | none => true) && jB5 n os
theorem jD2 {n : Nat} : ∀ {l : List Oper}, jB5 n l = true → ∀ o ∈ l, ∀ d, o.dst = some d → d < n := by
 intro l
 induction l with
 | nil => intro _ o h; cases h
 | cons x r ih =>
  intro h o ho d hd
  simp only [jB5, Bool.and_eq_true] at h
  rcases List.mem_cons.1 ho with rfl | ho
  ·have := h.1; rw [hd] at this; simpa [Nat.blt_eq] using this
  ·exact ih h.2 o ho d hd
variable {ρ : Option Nat} {P : Program} {κ : Type} {B : Base} {h0 : H} {Γ : Ctx} {Λ : Own} {F : κ → Option Ent} {n : Nat} {a : Act} {w : World} {Q : Exit → Act → World → Prop}
theorem reg {id : Nat} {ops : Array Oper} (sp : List OS) (l m : List Nat) (hAt : At B h0 Γ Λ F n a w) (hobl : qQh P sp ops.toList Γ Λ ops.toList sp)
  (hchk : (chk Γ Λ false ops.toList sp && jB5 n ops.toList) = true)
  (hnext : ∀ a w, At B h0 (mkG (jNd (jNh Γ ops.toList sp) l)) (mkO (jMd (jMe Λ ops.toList sp) m)) F n a w → Q .normal a w) : (Code.region id ops false).wpK ρ P Q a w := by
 rw [Bool.and_eq_true] at hchk
 exact wp_reg sp hAt hobl hchk.1 (jD2 hchk.2) (fun a w x => hnext a w (x.pick l m))
theorem regd {id : Nat} {ops : Array Oper} (sp : List OS) (rt rg l m : List Nat) (hAt : At B h0 Γ Λ F n a w) (hobl : qQh P sp ops.toList Γ Λ ops.toList sp)
  (hchk : (chk Γ Λ true ops.toList sp && inRange ops.size ops.toList && jGl .text rt 0 ops.toList && jGl .gc rg 0 ops.toList && jGl .any rt 0 ops.toList && jB5 n ops.toList) = true)
  (hnext : ∀ a w, At B h0 (mkG (jNd (jNh Γ ops.toList sp) l)) (mkO (jMd (jMe Λ ops.toList sp) m)) F n a w → Q .normal a w) : (Code.region id ops true).wpK ρ P Q a w := by
 rw [Bool.and_eq_true] at hchk
 exact qU0 sp rt rg hAt hobl hchk.1 (jD2 hchk.2) (fun a w x => hnext a w (x.pick l m))
theorem rdo {id : Nat} {ops : Array Oper} (sp : List OS) (rt rg l m : List Nat) (hAt : At B h0 Γ Λ F n a w) (hobl : qQh P sp ops.toList Γ Λ ops.toList sp)
  (hnext : ∀ a w, At B h0 (mkG (jNd (jNh Γ ops.toList sp) l)) (mkO (jMd (jMe Λ ops.toList sp) m)) F n a w → Q .normal a w)
  (hchk : (chk Γ Λ true ops.toList sp && inRange ops.size ops.toList && jGl .text rt 0 ops.toList && jGl .gc rg 0 ops.toList && jGl .any rt 0 ops.toList && jB5 n ops.toList) = true := by kernel_rfl) : (Code.region id ops true).wpK ρ P Q a w := regd sp rt rg l m hAt hobl hchk hnext
theorem rg {id : Nat} {ops : Array Oper} (sp : List OS) (Γ' : List (Nat × jJs)) (Λ' : List (Nat × (jXa))) (hAt : At B h0 Γ Λ F n a w) (hobl : qQh P sp ops.toList Γ Λ ops.toList sp)
  (hnext : ∀ a w, At B h0 (mkG Γ') (mkO Λ') F n a w → Q .normal a w)
  (hchk : (chk Γ Λ false ops.toList sp && jB5 n ops.toList) = true := by kernel_rfl) (hg : jNd (jNh Γ ops.toList sp) (Γ'.map (·.1)) = Γ' := by rfl) (hl : jMd (jMe Λ ops.toList sp) (Λ'.map (·.1)) = Λ' := by rfl) : (Code.region id ops false).wpK ρ P Q a w :=
 reg sp _ _ hAt hobl hchk (fun a w x => hnext a w (by rw [hg, hl] at x; exact x))
theorem rd {id : Nat} {ops : Array Oper} (sp : List OS) (rt rg : List Nat) (Γ' : List (Nat × jJs)) (Λ' : List (Nat × (jXa))) (hAt : At B h0 Γ Λ F n a w) (hobl : qQh P sp ops.toList Γ Λ ops.toList sp)
  (hnext : ∀ a w, At B h0 (mkG Γ') (mkO Λ') F n a w → Q .normal a w)
  (hchk : (chk Γ Λ true ops.toList sp && inRange ops.size ops.toList && jGl .text rt 0 ops.toList && jGl .gc rg 0 ops.toList && jGl .any rt 0 ops.toList && jB5 n ops.toList) = true := by kernel_rfl) (hg : jNd (jNh Γ ops.toList sp) (Γ'.map (·.1)) = Γ' := by rfl) (hl : jMd (jMe Λ ops.toList sp) (Λ'.map (·.1)) = Λ' := by rfl) : (Code.region id ops true).wpK ρ P Q a w :=
 regd sp rt rg _ _ hAt hobl hchk (fun a w x => hnext a w (by rw [hg, hl] at x; exact x))
def qQ1 (P : Program) (f : FuncId) : Bool := match P.funcs[f]? with | some fn => jD9 fn | none => false
theorem jH3 {f : FuncId} {args : List jJs} {post : jJs} {xs : Array Operand} {ts : Array TypeId} {N : List (Nat × jJs)} {o : Oper} (hc : FnOk P f args post)
  (ho : o.op = .call { callee := .value (.func f), args := xs, argTypes := ts }) (hargs : jDd N args xs.toList) (hb : qQ1 P f = true := by kernel_rfl) (hd : jY8 (post :: args) = true := by kernel_rfl) : jXy P o N [] post [] := by
 unfold qQ1 at hb
 cases hf : P.funcs[f]? with
 | none => rw [hf] at hb; cases hb
 | some fn => rw [hf] at hb; exact jNp hc hf hb hd ho hargs
theorem jDd.id : ∀ {M : List (Nat × jJs)} {N : List (Nat × jJs)}, (∀ h a, jPw N h a → jPw M h a) → jDd N (M.map (·.2)) (M.map fun q => .tmp q.1) := by
 intro M
 induction M with
 | nil => intro N _; trivial
 | cons q M ih => intro N hM; exact ⟨fun h a n => (hM h a n).1, ih fun h a n => (hM h a n).2⟩
theorem jVt {f : FuncId} {args : List jJs} {post : jJs} {xs : Array Operand} {ts : Array TypeId} {N : List (Nat × jJs)} {o : Oper} (hc : FnOk P f args post)
  (ho : o.op = .call { callee := .value (.func f), args := xs, argTypes := ts }) (ha : args = N.map (·.2) := by rfl) (hx : xs.toList = N.map (fun q => .tmp q.1) := by rfl) (hb : qQ1 P f = true := by kernel_rfl) (hd : jY8 (post :: args) = true := by kernel_rfl) : jXy P o N [] post [] :=
 jH3 hc ho (by rw [hx, ha]; exact jDd.id fun _ _ n => n) hb hd
abbrev AG {κ : Type} (B : Base) (h0 : H) (g : List (Nat × jJs)) (l : List (Nat × (jXa))) (F : κ → Option Ent) (n : Nat) (a : Act) (w : World) : Prop := At B h0 (mkG g) (mkO l) F n a w
abbrev sp (f : jJs) (r : List (Nat × Option Nat)) : OS := ⟨f, [], r, []⟩
abbrev si (v : Int) (r : List (Nat × Option Nat)) : OS := ⟨fV (Rep.int .i64) v, [], r, []⟩
abbrev sb (v : Bool) (r : List (Nat × Option Nat)) : OS := ⟨fV Rep.bool v, [], r, []⟩
abbrev sr {α : Type} (q : Rep α) (v : α) (r : List (Nat × Option Nat)) : OS := ⟨jQj q v, [], r, []⟩
abbrev sv {α : Type} (q : Rep α) (v : α) (r : List (Nat × Option Nat)) : OS := ⟨fV q v, [], r, []⟩
abbrev sk (f : jJs) (k : List (Nat × Option Nat)) : OS := ⟨f, [], [], k⟩
abbrev sz {f : jJs} (k : List (Nat × Option Nat)) : OS := ⟨f, [], [], k⟩
abbrev sa (n : Nat) (q : jXa) : OS := ⟨jJs.triv, [(n, some q)], [], []⟩
abbrev sx (n : Nat) (q : jXa) (r k : List (Nat × Option Nat)) : OS := ⟨jJs.triv, [(n, some q)], r, k⟩
abbrev ids (n : Nat) : List Nat := List.range n
abbrev ss (n m : Nat) : Nat × Option Nat := (n, some m)
abbrev nn (n : Nat) : Nat × Option Nat := (n, none)
abbrev ft : jJs := jJs.triv
abbrev fI (v : Int) : jJs := fV (Rep.int .i64) v
abbrev fB (v : Bool) : jJs := fV Rep.bool v
abbrev rI : Rep (List Int) := Rep.slice (Rep.int .i64)
abbrev wI : Int → Int := IntKind.i64.wrap
end Go.KB
namespace Go.KB
section
variable {K : Act → World → Prop} {Q : Exit → Act → World → Prop} {a : Act} {w : World} {i j : Nat}
theorem jX3 (h : Q (.exit i) a w) : Exit.then K Q (.exit i) a w := h
theorem jXq (h : Q .normal a w) : Exit.inBlock i Q .normal a w := h
theorem jQ7 (h : Q .ret a w) : Exit.inBlock i Q .ret a w := h
theorem jZa (h : Q .normal a w) : Exit.inBlock i Q (.exit i) a w := by simp [Exit.inBlock]; exact h
theorem jN3 (hne : Nat.beq i j = false) (h : Q (.exit i) a w) : Exit.inBlock j Q (.exit i) a w := by
 have : i ≠ j := fun e => by rw [jWx.2 e] at hne; cases hne
 simp [Exit.inBlock, this]; exact h
theorem jY7 : Exit.exit i ≠ .normal := fun h => by cases h
theorem jYz : Exit.ret ≠ .normal := fun h => by cases h
end
def fIs (v : Value) : jJs := ⟨none, fun _ _ u => u = v, fun _ x => x⟩
end Go.KB
namespace Go.KB
variable {P : Program} {o : Oper} {N : List (Nat × jJs)} {α β γ : Type}
def fNil (xs : List α) : jJs := ⟨none, fun _ _ v => ∃ b, v = .bool b ∧ (b = true → xs = []), fun _ x => x⟩
theorem qYb {T T' E : TypeId} {r : Rep α} {x : Operand} {xs : List α} (hT : P.underlying T = some (.slice E)) (ho : o.op = .binOp .eql T x (.const (.slice none 0 0)) T') (hx : jQq N x (fV (Rep.slice r) xs)) : jXy P o N [] (fNil xs) [] :=
 jXy.ofRun fun h a w _ n => by
  have hg : ∀ v, eqGuard .eql T x (.const (.slice none 0 0)) v (.slice none 0 0) = pure () := by
   intro v; unfold eqGuard; cases v <;> rfl
  rcases jVg.1 (hx h a n) with ⟨⟨base, hv⟩, rfl⟩ | ⟨b, off, cap, hv, _⟩
  ·cases base with
   | some a0 => exact ⟨.bool false, by simp only [execOp, ho, hv]; show ((do eqGuard _ _ _ _ _ (.slice none 0 0); binOp .eql T (.slice _ _ _) (.slice none 0 0)) >>= fun v => pure (Next.value v)).run P w = _; rw [hg]; simp [Lib.run_eql_slice_some_nil w _ _ _ hT], false, rfl, fun h => by cases h⟩
   | none => exact ⟨.bool true, by simp only [execOp, ho, hv]; show ((do eqGuard _ _ _ _ _ (.slice none 0 0); binOp .eql T (.slice none 0 0) (.slice none 0 0)) >>= fun v => pure (Next.value v)).run P w = _; rw [hg]; simp [Lib.run_eql_slice_nil_nil w _ _ hT], true, rfl, fun _ => rfl⟩
  ·exact ⟨.bool false, by simp only [execOp, ho, hv]; show ((do eqGuard _ _ _ _ _ (.slice none 0 0); binOp .eql T (.slice _ _ _) (.slice none 0 0)) >>= fun v => pure (Next.value v)).run P w = _; rw [hg]; simp [Lib.run_eql_slice_some_nil w _ _ _ hT], false, rfl, fun h => by cases h⟩
section
variable {κ : Type} {B : Base} {h0 : H} {Γ : Ctx} {Λ : Own} {F : κ → Option Ent} {n : Nat} {a : Act} {w : World} {Q : Exit → Act → World → Prop}
theorem qWa {ρ : Option Nat} {s : Nat} {xs : List α} {x y : Code} (hAt : At B h0 Γ Λ F n a w) (hs : Γ s = fNil xs) (ht : xs = [] → x.wpK ρ P Q a w) (hf : y.wpK ρ P Q a w) : (Code.cond (.tmp s) x y).wpK ρ P Q a w := by
 obtain ⟨h, _, _, _, _, hsat, _⟩ := hAt
 have := hsat s
 rw [hs] at this
 obtain ⟨b, hb, hx⟩ := this
 exact wp_cond_split (show Act.eval a (.tmp s) = _ from hb) (fun e => ht (hx e)) (fun _ => hf)
end
def qZt (P : Program) (f : FuncId) (args : List jJs) (q : jXa) (post : jJs) : Prop :=
 ∀ (κ : Type) (B : Base) (L : κ → Option Ent) (h : H) (w : World) (vs : List Value), St B h L w → args.length = vs.length → (∀ (i : Nat) (g : jJs) (v : Value), args[i]? = some g → vs[i]? = some v → g.p h undef v) →
  Calls P f vs.toArray w (fun e w' => ∃ v h' x, e = .returned v ∧ Hle h h' ∧ St B h' (Sum.elim (fun _ : Unit => some x) L) w' ∧ post.p h' undef v ∧ q v x)
def qVf (q : jXa) : jXa := fun v e => ∃ x y, v = .tuple #[x, y] ∧ q x e
def jAw (P : Program) (fn : Func) {κ : Type} (B : Base) (h0 : H) (F : κ → Option Ent) (q : jXa) (post : jJs) : Exit → Act → World → Prop :=
 fun e a w => B.df = [] → jR2 P fn (fun e w' => ∃ v h' x, e = .returned v ∧ Hle h0 h' ∧ St B h' (Sum.elim (fun _ : Unit => some x) F) w' ∧ post.p h' undef v ∧ q v x) e a w
theorem jNw {n : Nat} {f : FuncId} {fn : Func} {c : Code} {args : List jJs} {q : jXa} {post : jJs} (hf : P.funcs[f]? = some fn) (hb : fn.body = some c) (hn : fn.ntmps = n) (hchk : (Nat.ble args.length n && jY8 args) = true)
  (hwp : ∀ (κ : Type) (B : Base) (h0 : H) (F : κ → Option Ent) (a : Act) (w : World), At B h0 (mkG (jA7 0 args)) (mkO []) F n a w → c.wpK none P (jAw P fn B h0 F q post) a w) : qZt P f args q post := by
 intro κ B L h w vs hst hl hargs
 rw [Bool.and_eq_true, Nat.ble_eq] at hchk
 obtain ⟨hlen, hdp⟩ := hchk
 have hdep := jYr hdp
 refine jDn rfl hf hb (hwp _ B.e h L _ w ⟨h, fun _ => none, Hle.refl h, (St.sumNone hst).toE, fun s q hq => (by cases hq), ?_, ?_, rfl⟩) (fun _ _ ⟨v, h', x, he, hl, hs, hp⟩ => ⟨v, h', x, he, hl, hs.ofE, hp⟩)
 ·intro s
  rcases jM3 args 0 s with h1 | ⟨j, g, h1, h2, h3⟩
  ·show (lkF (jA7 0 args) s).at _ _ _; rw [h1]; exact trivial
  ·show (lkF (jA7 0 args) s).at _ _ _; rw [h3]
   have hj := (List.getElem?_eq_some_iff.1 h1).1
   have hv : vs[j]? = some vs[j] := List.getElem?_eq_getElem (by omega)
   have := hargs j g _ h1 hv
   unfold jJs.at jJs.dv
   rw [hdep g (List.mem_of_getElem? h1)]
   have he : Act.gt { tmps := vs.toArray ++ Array.replicate (fn.ntmps - vs.toArray.size) undef, defers := [] } s = vs[j] := by
    rw [h2, Nat.zero_add]
    simp only [Act.gt, Array.getD_eq_getD_getElem?]
    rw [Array.getElem?_append_left (by simp; omega)]
    simp [hv]
   rw [he]; exact this
 ·simp; omega
section
variable {κ : Type} {B : Base} {h h0 : H} {L : Nat → Option Ent} {Γ : Ctx} {Λ : Own} {F : κ → Option Ent} {n : Nat} {a : Act} {w : World} {q : jXa}
theorem St.one (hst : St B h (Sum.elim L F) w) (s : Nat) {e : Ent} (hL : L s = some e) : St B h (Sum.elim (fun _ : Unit => some e) F) w := by
 refine hst.reind (fun k => match k with | .inl _ => .inl s | .inr k => .inr k) ?_ ?_
 ·intro k e' hk
  cases k with
  | inl _ => exact hL.trans hk
  | inr k => exact hk
 ·intro k k' e1 e2 h1 h2 hne
  cases k with
  | inl u => cases k' with
   | inl u' => exact absurd rfl hne
   | inr k' => intro he; cases he
  | inr k => cases k' with
   | inl u' => intro he; cases he
   | inr k' => intro he; exact hne (by rw [Sum.inr.inj he])
theorem ret1O {fn : Func} {s : Nat} (hr : fn.results = #[.tmp s]) (hs : Λ s = some q) (hAt : At B h0 Γ Λ F n a w) : jAw P fn B h0 F q jJs.triv .ret a w := by
 obtain ⟨h, L, hl, hst, hOw, hsat, _, hdf⟩ := hAt
 obtain ⟨e, hL, hq⟩ := hOw s q hs
 refine fun hB => .inl ⟨hdf.trans hB, a.gt s, ?_, a.gt s, h, e, rfl, hl, hst.one s hL, trivial, hq⟩
 have hv : (resV a.tmps (.tmp s)).run P w = .ok (a.gt s) w := rfl
 rw [jY5]; simp [hr, hv]
end
theorem jSj {d : Nat} {f : FuncId} {fn : Func} {args : List jJs} {q : jXa} {post : jJs} {xs : Array Operand} {ts : Array TypeId} (hc : qZt P f args q post) (hf : P.funcs[f]? = some fn) (hb : jD9 fn = true) (hd : jY8 (post :: args) = true) (hdst : o.dst = some d)
    (ho : o.op = .call { callee := .value (.func f), args := xs, argTypes := ts }) (hargs : jDd N args xs.toList) : jXy P o N [] post [(d, some q)] := by
  intro κ B F L h a w hst hn _ hdn next Q hnext _
  simp only [jD9, Bool.and_eq_true, Bool.not_eq_true'] at hb
  have hbody : fn.body ≠ none := by
    intro hx; rw [hx] at hb; cases hb.1
  have hname : fn.name ≠ "runtime.NumGoroutine" := by simpa using hb.2
  have hdp := jYr hd
  obtain ⟨hlen, hall⟩ := hargs.spec
  unfold Oper.wpK
  have : (execOp a.eval o).run P w = .ok (.enter f (xs.toList.map a.eval).toArray) w := by
    have e : (xs.toList.map a.eval).toArray = xs.map a.eval := by apply Array.ext'; simp
    rw [e]
    simp [execOp, ho, resolve, Act.eval, Deferred.ofValue, invoke, callFunc, hf, hname, hbody]
  rw [this, jNr]
  refine (hc _ B (Sum.elim L F) h w (xs.toList.map a.eval) hst (by rw [List.length_map]; exact hlen) ?_).mono ?_
  · intro i g v hg hv
    rw [List.getElem?_map] at hv
    cases hx : xs.toList[i]? with
    | none => rw [hx] at hv; cases hv
    | some x =>
      rw [hx] at hv; cases hv
      have := hall i g x hg hx h a hn
      unfold jJs.dv at this
      rw [hdp g (List.mem_cons_of_mem _ (List.mem_of_getElem? hg))] at this
      exact this
  · rintro e w' ⟨v, h', x, rfl, hl, hst', hp, hq⟩
    refine hnext v h' w' (set1 L d x) hl ?_ ?_ ?_
    · unfold jJs.dv
      rw [hdp post List.mem_cons_self]
      exact hp
    · refine hst'.reind (fun k => match k with | .inl k => if k = d then .inl () else .inr (.inl k) | .inr k => .inr (.inr k)) ?_ ?_
      · intro k e hk
        cases k with
        | inr k => exact hk
        | inl k =>
          by_cases hkd : k = d
          · subst hkd; simp [set1] at hk; simp [hk]
          · simp [set1, hkd] at hk; simp [hkd, hk]
      · intro k k' e1 e2 h1 h2 hne
        cases k with
        | inr k => cases k' with
          | inr k' => intro he; exact hne (by rw [Sum.inr.inj (Sum.inr.inj he)])
          | inl k' => intro he; simp only [] at he; split at he <;> cases he
        | inl k => cases k' with
          | inr k' => intro he; simp only [] at he; split at he <;> cases he
          | inl k' =>
            have hne' : k ≠ k' := fun x => hne (by rw [x])
            simp only []
            intro he
            split at he <;> split at he
            · rename_i h3 h4; exact hne' (h3.trans h4.symm)
            · cases he
            · cases he
            · exact hne' (Sum.inl.inj (Sum.inr.inj he))
    · rw [hdst]
      exact jYy (by rw [jQ2 (hdn d hdst)]; exact hq)
theorem jN5 {q : jXa} {s d : Nat} (hsd : Nat.beq s d = false) (hd : o.dst = some d) (ho : o.op = .extract (.tmp s) 0) : jXy P o N [(s, qVf q)] jJs.triv [(s, none), (d, some q)] := by
 intro κ B F L h a w hst hn hk hdn next Q hnext _
 obtain ⟨e, hL, x, y, hv, hq⟩ := hk.1
 have hne : s ≠ d := fun x => by rw [jWx.2 x] at hsd; cases hsd
 have hv' : a.eval (.tmp s) = .tuple #[x, y] := hv
 unfold Oper.wpK
 have : (execOp a.eval o).run P w = .ok (.value x) w := by simp [execOp, ho, hv', Instr.extract]
 rw [this]
 refine hnext _ h w _ (Hle.refl h) trivial (hst.mv s d) ?_
 rw [hd]
 exact jPn hne hL (by rw [jQ2 (hdn d hd)]; exact hq)
end Go.KB
namespace Go.KB
variable {P : Program} {o : Oper} {N : List (Nat × jJs)} {f : jJs} {α β : Type}
structure SegK where
 b : Nat
 cap : Nat
 pre : List Value
 post : List Value
def jTv (K : SegK) (E : TypeId) (r : Rep α) (xs : List α) : Ent where
 claims := [(K.b, 0)]
 ok := fun h m => ∃ cs, m K.b = some (.cells (K.pre ++ cs ++ K.post).toArray E (0, 0)) ∧ jG6 r h cs xs
 mono := by rintro h h' m hl ⟨cs, e, k⟩; exact ⟨cs, e, k.mono hl⟩
 frame := fun hm ⟨cs, e, k⟩ => ⟨cs, by rw [hm (K.b, 0) (by simp)]; exact e, k⟩
def segE (K : Option SegK) (E : TypeId) (r : Rep α) (xs : List α) : jXa := fun v e =>
 match K with
 | none => (∃ base, v = .slice base 0 0) ∧ xs = [] ∧ e = jFv
 | some K => v = .slice (some ⟨K.b, K.pre.length, none⟩) xs.length K.cap ∧ xs.length ≤ K.cap ∧ e = jTv K E r xs
theorem seg_at {κ : Type} {B : Base} {h : H} {L : Nat → Option Ent} {F : κ → Option Ent} {w : World} (hst : St B h (Sum.elim L F) w) {s : Nat} {K : SegK} {E : TypeId} {r : Rep α} {xs : List α}
  (hk : L s = some (jTv K E r xs)) : ∃ cs, w.heap[K.b]? = some (.cells (K.pre ++ cs ++ K.post).toArray E (0, 0)) ∧ jG6 r h cs xs := (hst.own (k := Sum.inl s) hk).2
theorem St.swap {κ : Type} {B : Base} {h : H} {L : Nat → Option Ent} {F : κ → Option Ent} {w : World} (hst : St B h (Sum.elim L F) w) {s : Nat} {e e' : Ent} (hL : L s = some e)
  (hcl : ∀ c ∈ e'.claims, ∃ c0 ∈ e.claims, c0.1 = c.1 ∧ c0.2 ≤ c.2) (hok : e'.ok h (World.mem w)) : St B h (Sum.elim (set1 L s e') F) w := by
 obtain ⟨hcl0, _⟩ := hst.own (k := Sum.inl s) hL
 refine hst.step (Sum.inl s) (fun _ => False) (fun _ hb => hb.elim) (Nat.le_refl _) rfl rfl rfl (fun _ _ _ => rfl) (Hle.refl h) (fun _ _ _ _ => rfl) ?_ jU9 ?_
 ·rintro b o' v (hb | hb) hv
  ·exact hb.elim
  ·rw [hst.fresh hb] at hv; cases hv
 ·intro e1 he
  rw [jGq he]
  refine ⟨fun c hc => ?_, hok⟩
  obtain ⟨c0, hc0, h1, h2⟩ := hcl c hc
  obtain ⟨_, h3, h4⟩ := hcl0 c0 hc0
  exact ⟨.inr ⟨_, hL, c0, hc0, h1⟩, by omega, fun o ho => by rw [← h1]; exact h4 o (by omega)⟩
theorem jNe {L : Nat → Option Ent} {s : Nat} {e : Ent} (hL : L s = some e) : set1 L s e = L := by
 funext k; unfold set1; split
 ·rename_i hk; rw [hk, hL]
 ·rfl
theorem qZw {L : Nat → Option Ent} {s : Nat} {e e' : Ent} : set1 (set1 L s e) s e' = set1 L s e' := by
 funext k; unfold set1; split <;> rfl
theorem jB9 {L : Nat → Option Ent} {s : Nat} {e : Ent} : set1 L s e s = some e := by simp [set1]
def jAj (s : Nat) (fx : jJs) (q0 q0' : jXa) {ι : Type} (q q' : ι → jXa) : Prop :=
 ∀ (κ : Type) (B : Base) (F : κ → Option Ent) (L : Nat → Option Ent) (h : H) (w : World) (d v : Value) (e : Ent), St B h (Sum.elim L F) w → L s = some e → q0 d e → fx.p h d v →
  ∃ k x, q k v x ∧ St B h (Sum.elim (set1 L s x) F) w ∧ ∀ (h' : H) (w' : World) (x' : Ent), Hle h h' → q' k v x' → St B h' (Sum.elim (set1 L s x') F) w' → ∃ e', q0' d e' ∧ St B h' (Sum.elim (set1 L s e') F) w'
theorem jAj.cp {s : Nat} {q0 q0' : jXa} : jAj s (fCp s) q0 q0' (fun _ : Unit => q0) (fun _ => q0') := by
 intro κ B F L h w d v e hst hL hq hv
 have hv : v = d := hv
 subst hv
 exact ⟨(), e, hq, by rw [jNe hL]; exact hst, fun h' w' x' hle' hq' hst' => ⟨x', hq', hst'⟩⟩
theorem jAj.arr {s : Nat} {E : TypeId} {r : Rep α} {xs xs' : List α} : jAj s (fCp s) (jKg E r xs) (jKg E r xs') (fun K : Option SegK => segE K E r xs) (fun K => segE K E r xs') := by
  intro κ B F L h w d v e hst hL hq hv
  have hv : v = d := hv
  subst hv
  rcases hq with ⟨hv, rfl, rfl⟩ | ⟨b, cap, hv, hc, rfl⟩
  · refine ⟨none, jFv, ⟨hv, rfl, rfl⟩, by rw [jNe hL]; exact hst, fun h' w' x' hle' hq' hst' => ⟨x', ?_, hst'⟩⟩
    obtain ⟨h1, h2, h3⟩ := hq'
    exact .inl ⟨h1, h2, h3⟩
  · obtain ⟨cs, rest, hb, hr, hlen⟩ := jA4 hst hL
    refine ⟨some ⟨b, cap, [], rest⟩, jTv ⟨b, cap, [], rest⟩ E r xs, ⟨by simpa using hv, hc, rfl⟩,
      hst.swap hL (fun c hc => ⟨c, by simpa [jTv, jUr] using hc, rfl, Nat.le_refl _⟩) ⟨cs, by simpa [World.mem] using hb, hr⟩, fun h' w' x' hle' hq' hst' => ?_⟩
    obtain ⟨h1, h2, rfl⟩ := hq'
    obtain ⟨cs', hb', hr'⟩ := seg_at hst' jB9
    have hl : xs'.length = xs.length := by rw [hv] at h1; injection h1 with _ h3 _; exact h3.symm
    refine ⟨jUr b E r xs' cap, .inr ⟨b, cap, by rw [hl]; exact hv, by omega, rfl⟩, ?_⟩
    have := hst'.swap (e' := jUr b E r xs' cap) jB9 (fun c hc => ⟨c, by simpa [jTv, jUr] using hc, rfl, Nat.le_refl _⟩) ⟨cs', rest, by simpa [World.mem] using hb', hr', by
      rw [← hlen, List.length_append, List.length_append, hr'.len, hr.len, hl]⟩
    rwa [qZw] at this
theorem jG6.split {r : Rep α} {h : H} : ∀ {xs : List α} {cs : List Value} (n : Nat), jG6 r h cs xs → n ≤ xs.length → ∃ c d, cs = c ++ d ∧ jG6 r h c (xs.take n) ∧ jG6 r h d (xs.drop n) := by
 intro xs
 induction xs with
 | nil => intro cs n k hn; exact ⟨[], cs, rfl, by simp [jG6], by simpa using k⟩
 | cons x xs ih =>
  intro cs n k hn
  cases n with
  | zero => exact ⟨[], cs, rfl, rfl, k⟩
  | succ n =>
   obtain ⟨c, d, rfl, hc, hd⟩ := k
   obtain ⟨c', d', rfl, hc', hd'⟩ := ih n hd (by simpa using hn)
   exact ⟨c ++ c', d', by simp, ⟨c, c', rfl, hc, hc'⟩, hd'⟩
theorem St.enter {κ : Type} {B : Base} {h : H} {F : κ → Option Ent} {w : World} {x : Ent} (i : Nat) (hst : St B h (Sum.elim (fun _ : Unit => some x) F) w) : St B h (Sum.elim (fun k => if k = i then some x else none) F) w := by
 refine hst.reind (fun k => match k with | .inl _ => .inl () | .inr k => .inr k) ?_ ?_
 ·intro k e hk
  cases k with
  | inl k =>
   simp only [Sum.elim_inl] at hk
   split at hk
   ·exact hk
   ·cases hk
  | inr k => exact hk
 ·intro k k' e e' hk hk' hne
  cases k with
  | inl k => cases k' with
   | inl k' =>
    simp only [Sum.elim_inl] at hk hk'
    split at hk <;> split at hk'
    ·rename_i h1 h2; exact absurd (by rw [h1, h2]) hne
    ·cases hk'
    ·cases hk
    ·cases hk
   | inr k' => intro he; cases he
  | inr k => cases k' with
   | inl k' => intro he; cases he
   | inr k' => intro he; exact hne (by rw [Sum.inr.inj he])
section
variable {κ : Type} {B : Base} {h h0 : H} {L : Nat → Option Ent} {Γ : Ctx} {Λ : Own} {F : κ → Option Ent} {n : Nat} {a : Act} {w : World} {q : jXa} {i : Nat} {v : Value}
end
theorem St.out {κ : Type} {B : Base} {h : H} {L : Nat → Option Ent} {F : κ → Option Ent} {w : World} {x : Ent} {s : Nat} (hst : St B h (Sum.elim (set1 L s x) F) w) :
  St B h (Sum.elim (fun _ : Unit => some x) (Sum.elim (fun k => if k = s then none else L k) F)) w := by
 refine hst.reind (fun k => match k with | .inl _ => .inl s | .inr (.inl k) => .inl k | .inr (.inr k) => .inr k) ?_ ?_
 ·intro k e hk
  cases k with
  | inl k => simpa [set1] using hk
  | inr k => cases k with
   | inl k =>
    simp only [Sum.elim_inr, Sum.elim_inl] at hk
    split at hk
    ·cases hk
    ·rename_i hne; simpa [set1, hne] using hk
   | inr k => exact hk
 ·intro k k' e e' hk hk' hne
  have key : ∀ (j : Nat) (e : Ent), (if j = s then none else L j) = some e → j ≠ s := fun j e hj hjs => by rw [if_pos hjs] at hj; cases hj
  cases k with
  | inl k => cases k' with
   | inl k' => exact absurd rfl hne
   | inr k' => cases k' with
    | inl k' => intro he; exact key _ _ hk' (Sum.inl.inj he).symm
    | inr k' => intro he; cases he
  | inr k => cases k with
   | inl k => cases k' with
    | inl k' => intro he; exact key _ _ hk (Sum.inl.inj he)
    | inr k' => cases k' with
     | inl k' => intro he; exact hne (by rw [Sum.inl.inj he])
     | inr k' => intro he; cases he
   | inr k => cases k' with
    | inl k' => intro he; cases he
    | inr k' => cases k' with
     | inl k' => intro he; cases he
     | inr k' => intro he; exact hne (by rw [Sum.inr.inj he])
theorem St.into {κ : Type} {B : Base} {h : H} {L : Nat → Option Ent} {F : κ → Option Ent} {w : World} {x : Ent} {s : Nat} (hst : St B h (Sum.elim (fun _ : Unit => some x) (Sum.elim (fun k => if k = s then none else L k) F)) w) :
    St B h (Sum.elim (set1 L s x) F) w := by
  refine hst.reind (fun k => match k with | .inl k => if k = s then .inl () else .inr (.inl k) | .inr k => .inr (.inr k)) ?_ ?_
  · intro k e hk
    cases k with
    | inr k => exact hk
    | inl k =>
      by_cases hks : k = s
      · subst hks; simp [set1] at hk; simp [hk]
      · simp [set1, hks] at hk; simp [hks, hk]
  · intro k k' e1 e2 h1 h2 hne
    cases k with
    | inr k => cases k' with
      | inr k' => intro he; exact hne (by rw [Sum.inr.inj (Sum.inr.inj he)])
      | inl k' => intro he; simp only [] at he; split at he <;> cases he
    | inl k => cases k' with
      | inr k' => intro he; simp only [] at he; split at he <;> cases he
      | inl k' =>
        have hne' : k ≠ k' := fun x => hne (by rw [x])
        simp only []
        intro he
        split at he <;> split at he
        · rename_i h3 h4; exact hne' (h3.trans h4.symm)
        · cases he
        · cases he
        · exact hne' (Sum.inl.inj (Sum.inr.inj he))
end Go.KB
