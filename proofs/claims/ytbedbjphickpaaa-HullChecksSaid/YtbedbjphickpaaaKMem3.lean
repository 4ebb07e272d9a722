/- Appending, making, cutting slices; rows that are written. No condition. -/
import Derived.Test.YtbedbjphickpaaaKMem2
namespace Go.KB
variable {P : Program} {o : Oper} {N : List (Nat × Fact)} {f : Fact} {α β : Type}

/- ownership goes from one slot to another -/
def mv (L : Nat → Option Ent) (s d : Nat) : Nat → Option Ent := fun k => if k = d then L s else if k = s then none else L k
theorem St.mv {κ : Type} {B : Base} {h : H} {L : Nat → Option Ent} {F : κ → Option Ent} {w : World} (hst : St B h (Sum.elim L F) w) (s d : Nat) : St B h (Sum.elim (mv L s d) F) w := by
  refine hst.reind (fun k => match k with | .inr k => .inr k | .inl k => if k = d then .inl s else .inl k) ?_ ?_
  · intro k' e hk
    cases k' with
    | inr k => exact hk
    | inl k =>
      simp only [Sum.elim_inl, KB.mv] at hk
      simp only []
      split at hk
      · rename_i h1; rw [if_pos h1]; exact hk
      · rename_i h1
        rw [if_neg h1]
        split at hk
        · cases hk
        · exact hk
  · intro k k' e e' hk hk' hne
    cases k with
    | inr k => cases k' with
      | inr k' => intro he; exact hne he
      | inl k' => intro he; simp only [] at he; split at he <;> cases he
    | inl k => cases k' with
      | inr k' => intro he; simp only [] at he; split at he <;> cases he
      | inl k' =>
        simp only [Sum.elim_inl, KB.mv] at hk hk'
        have hne' : k ≠ k' := fun x => hne (by rw [x])
        simp only []
        intro he
        split at he <;> split at he
        · rename_i h1 h2; exact hne' (h1.trans h2.symm)
        · rename_i h1 h2
          have := Sum.inl.inj he
          rw [if_neg h2, if_pos this.symm] at hk'; cases hk'
        · rename_i h1 h2
          have := Sum.inl.inj he
          rw [if_neg h1, if_pos this] at hk; cases hk
        · exact hne' (Sum.inl.inj he)
theorem upd_mv' {L0 L : Nat → Option Ent} {s d : Nat} {e : Ent} {q : OwnP} {a : Act} (hL0 : ∀ k, k ≠ s → L k = L0 k) (hsd : s ≠ d) (hL : L s = some e) (hq : q (a.gt d) e) : UpdOk L0 (mv L s d) (full [(s, none), (d, some q)] (some d)) a := by
  intro k
  have hsd' : Nat.beq s d = false := by rw [Bool.eq_false_iff, Ne, nbeq]; exact hsd
  by_cases hk : k = d
  · subst hk
    have : lkU (full [(s, none), (k, some q)] (some k)) k = some (some q) := by simp [full, lkU, hsd', Nat.beq_refl]
    rw [this]; exact ⟨e, by simp [mv, hL], hq⟩
  · by_cases hks : k = s
    · subst hks
      have : lkU (full [(k, none), (d, some q)] (some d)) k = some none := by simp [full, lkU, Nat.beq_refl]
      rw [this]; trivial
    · have h1 : Nat.beq s k = false := by rw [Bool.eq_false_iff, Ne, nbeq]; exact fun x => hks x.symm
      have h2 : Nat.beq d k = false := by rw [Bool.eq_false_iff, Ne, nbeq]; exact fun x => hk x.symm
      have : lkU (full [(s, none), (d, some q)] (some d)) k = none := by simp [full, lkU, h1, h2]
      rw [this]; simp only [mv, hk, hks, if_false]; exact hL0 k hks
theorem upd_mv {L : Nat → Option Ent} {s d : Nat} {e : Ent} {q : OwnP} {a : Act} (hsd : s ≠ d) (hL : L s = some e) (hq : q (a.gt d) e) : UpdOk L (mv L s d) (full [(s, none), (d, some q)] (some d)) a := upd_mv' (fun _ _ => rfl) hsd hL hq

/- a move that takes ownership along -/
theorem ok_moveOwn {q : OwnP} {s d : Nat} (hsd : Nat.beq s d = false) (hd : o.dst = some d) (ho : o.op = .move (.tmp s) ∨ o.op = .assign (.tmp s)) (hx : OpdOk N (.tmp s) f) : OpOk P o N [(s, q)] f [(s, none), (d, some q)] := by
  intro κ B F L h a w hst hn hk hdn next Q hnext
  obtain ⟨e, hL, hq⟩ := hk.1
  have hne : s ≠ d := fun x => by rw [nbeq.2 x] at hsd; cases hsd
  unfold Oper.wp
  have : (execOp a.eval o).run P w = .ok (.value (a.gt s)) w := by rcases ho with ho | ho <;> (simp [execOp, ho, Act.eval, Act.gt])
  rw [this]
  refine hnext _ h w _ (Hle.refl h) (hx h a hn) (hst.mv s d) ?_
  rw [hd]
  exact upd_mv hne hL (by rw [gt_put_same (hdn d hd)]; exact hq)
/- the nil slice may be appended to -/
theorem ok_nilTip {E : TypeId} {r : Rep α} {sz d : Nat} (hd : o.dst = some d) (ho : o.op = .assign (.const (.slice none 0 0)) ∨ o.op = .move (.const (.slice none 0 0))) : OpOk P o N [] (fV (Rep.slice r) []) [(d, some (tipE E sz))] := by
  intro κ B F L h a w hst hn _ hdn next Q hnext
  unfold Oper.wp
  have : (execOp a.eval o).run P w = .ok (.value (.slice none 0 0)) w := by rcases ho with ho | ho <;> (simp [execOp, ho]; rfl)
  rw [this]
  have hst' : St B h (Sum.elim (set1 L d nilEnt) F) w := by
    refine hst.step (Sum.inl d) (fun _ => False) (fun b hb => hb.elim) (Nat.le_refl _) rfl rfl rfl (fun _ _ _ => rfl) (Hle.refl h) (fun _ _ _ _ => rfl) ?_ set1_ne ?_
    · rintro b o' v (hb | hb) hv
      · exact hb.elim
      · rw [hst.fresh hb] at hv; cases hv
    · intro e' he; rw [set1_eq he]; exact ⟨fun c hc => (by cases hc), trivial⟩
  refine hnext _ h w _ (Hle.refl h) (val_slice.2 (.inl ⟨⟨none, rfl⟩, rfl⟩)) hst' ?_
  rw [hd]
  exact upd_set1 (.inl ⟨none, 0, gt_put_same (hdn d hd), rfl⟩)

/- append -/
def lim : Nat := 2 ^ 38
def app (xs ys : List α) : Option (List α) := bif Nat.ble (xs.length + ys.length) lim then some (xs ++ ys) else none
theorem app_spec {xs ys zs : List α} (h : app xs ys = some zs) : zs = xs ++ ys ∧ xs.length + ys.length ≤ lim := by
  unfold app at h
  cases hb : Nat.ble (xs.length + ys.length) lim with
  | true => rw [hb] at h; cases h; exact ⟨rfl, Nat.le_of_ble_eq_true hb⟩
  | false => rw [hb] at h; cases h

theorem run_append_roomAt {T ty E : TypeId} {i : TypeInfo} (w : World) (ht : P.underlying T = some (.slice E)) (hi : P.info? E = some i) (g off sLen sCap : Nat) (cur : Array Value) (hg : w.heap[g]? = some (.cells cur E (0, 0)))
    (a : Addr) (m c : Nat) (news : List Value) (hl : news.length = m * i.size) (hnews : ∀ j u, news[j]? = some u → w.cell? (a.add j) = some u) (h1 : ∀ u ∈ news, u.oneCell' = true) (hroom : sLen + m ≤ sCap) (hfit : off + sLen * i.size + news.length ≤ cur.size) :
    (Builtin.append_ #[T, T] ty #[.slice (some ⟨g, off, none⟩) sLen sCap, .slice (some a) m c]).run P w =
      .ok (.slice (some ⟨g, off, none⟩) (sLen + m) sCap) (w.setRow g (cur.toList.take (off + sLen * i.size) ++ news ++ cur.toList.drop (off + sLen * i.size + news.length)).toArray) := by
  have hf := run_firstCells_some (P := P) w i.size m a m c news hl hnews
  have hst := run_storeCells_at P g (off + sLen * i.size) E news 0 cur w hg (by simpa using hfit) h1
  simp only [Nat.add_zero] at hst
  simp [Builtin.append_, run_underlying ht, sizeOf, typeInfo, hi, Builtin.lenOf, hroom, hf, Addr.add_mid, hst]
theorem run_append_nothing {T ty E : TypeId} {i : TypeInfo} (w : World) (ht : P.underlying T = some (.slice E)) (hi : P.info? E = some i) (base : Option Addr) (sLen sCap : Nat) (hl : sLen ≤ sCap) (y : Option Addr) (c : Nat) :
    (Builtin.append_ #[T, T] ty #[.slice base sLen sCap, .slice y 0 c]).run P w = .ok (.slice base sLen sCap) w := by
  have hf : (Builtin.firstCells i.size 0 (.slice y 0 c)).run P w = .ok #[] w := by
    cases y with
    | none => rfl
    | some a => simp [Builtin.firstCells, loadCells, loadCellsFrom]
  cases base with
  | none => simp [Builtin.append_, run_underlying ht, sizeOf, typeInfo, hi, Builtin.lenOf, hl, hf]
  | some b => simp [Builtin.append_, run_underlying ht, sizeOf, typeInfo, hi, Builtin.lenOf, hl, hf, storeCells]

theorem SlRel.le {r : Rep α} {h : H} {v : Value} {xs : List α} (k : SlRel r h v xs) : ∃ base cap, v = .slice base xs.length cap ∧ xs.length ≤ cap := by
  rcases k with ⟨⟨base, rfl⟩, rfl⟩ | ⟨b, off, cap, rfl, hc, _⟩
  · exact ⟨base, 0, rfl, Nat.le_refl _⟩
  · exact ⟨_, cap, rfl, hc⟩

theorem zlen (z : Array Value) (n : Nat) : (Builtin.zeroCells z n).toList.length = n * z.size := by rw [Array.length_toList, size_zeroCells]
theorem upd_set1' {L : Nat → Option Ent} {s d : Nat} {e : Ent} {q : OwnP} {a : Act} (hsd : s ≠ d) (hq : q (a.gt d) e) : UpdOk L (set1 L d e) (full [(s, none), (d, some q)] (some d)) a := by
  intro k
  have hsd' : Nat.beq s d = false := by rw [Bool.eq_false_iff, Ne, nbeq]; exact hsd
  by_cases hk : k = d
  · subst hk
    have : lkU (full [(s, none), (k, some q)] (some k)) k = some (some q) := by simp [full, lkU, hsd', Nat.beq_refl]
    rw [this]; exact ⟨e, by simp [set1], hq⟩
  · by_cases hks : k = s
    · subst hks
      have : lkU (full [(k, none), (d, some q)] (some d)) k = some none := by simp [full, lkU, Nat.beq_refl]
      rw [this]; trivial
    · have h1 : Nat.beq s k = false := by rw [Bool.eq_false_iff, Ne, nbeq]; exact fun x => hks x.symm
      have h2 : Nat.beq d k = false := by rw [Bool.eq_false_iff, Ne, nbeq]; exact fun x => hk x.symm
      have : lkU (full [(s, none), (d, some q)] (some d)) k = none := by simp [full, lkU, h1, h2]
      rw [this]; simp [set1, hk]

/- the append that makes a new array -/
theorem St.grown {κ : Type} {B : Base} {h : H} {L : Nat → Option Ent} {F : κ → Option Ent} {w : World} (hst : St B h (Sum.elim L F) w) {r : Rep α} {cx cy : List Value} {xs ys : List α} (E : TypeId) (d cap : Nat) (hx : RelL r h cx xs) (hy : RelL r h cy ys) (hge : xs.length + ys.length ≤ cap) :
    ∃ h', Hle h h' ∧ St B h' (Sum.elim (set1 L d (cellsE E w.heap.size ((xs.length + ys.length) * r.sz) (cap * r.sz))) F) (w.drew.alloc (.cells (cx.toArray ++ cy.toArray ++ Builtin.zeroCells (pack r.agg r.zc).cells (cap - (xs.length + ys.length))) E)) ∧
      SlRel r h' (.slice (some ⟨w.heap.size, 0, none⟩) (xs.length + ys.length) cap) (xs ++ ys) := by
  have hzc : (pack r.agg r.zc).cells.size = r.sz := by rw [cells_pack (r.zrel h)]; simp [r.len (r.zrel h)]
  have hxy := hx.append hy
  obtain ⟨h', hle, hst', hsl⟩ := (hst.drawn (w.drawn + 1)).newRow (rest := (Builtin.zeroCells (pack r.agg r.zc).cells (cap - (xs.length + ys.length))).toList) E d cap hxy (by
    rw [List.length_append, hxy.len, zlen, hzc, ← Nat.add_mul, List.length_append]; congr 1; omega) (by rw [List.length_append]; exact hge)
  rw [List.length_append] at hst' hsl
  refine ⟨h', hle, ?_, hsl⟩
  have : (cx.toArray ++ cy.toArray ++ Builtin.zeroCells (pack r.agg r.zc).cells (cap - (xs.length + ys.length))) = ((cx ++ cy) ++ (Builtin.zeroCells (pack r.agg r.zc).cells (cap - (xs.length + ys.length))).toList).toArray := by
    apply Array.ext'; simp
  rw [this]
  exact hst'

theorem ok_appendC {T E : TypeId} {r : Rep α} {s d : Nat} {y : Operand} {xs ys : List α} (hbb : ∀ i, P.info? E = some i → i.bytes ≤ 512 → (xs.length + ys.length) * i.bytes ≤ 140737488355328) (h63 : xs.length + ys.length ≤ 9223372036854775807) (el : ElOk P E r) (hT : P.underlying T = some (.slice E)) (hsd : Nat.beq s d = false) (hd : o.dst = some d)
    (ho : o.op = .call { callee := .builtin .append, args := #[.tmp s, y], argTypes := #[T, T] }) (hx : OpdOk N (.tmp s) (fV (Rep.slice r) xs)) (hy : OpdOk N y (fV (Rep.slice r) ys)) :
    OpOk P o N [(s, tipE E r.sz)] (fV (Rep.slice r) (xs ++ ys)) [(s, none), (d, some (tipE E r.sz))] := by
  obtain ⟨i, hi, hsz, hby, hzero⟩ := el.out
  have hne : s ≠ d := fun x => by rw [nbeq.2 x] at hsd; cases hsd
  have hbytes : (xs.length + ys.length) * i.bytes ≤ 140737488355328 := hbb i hi hby
  intro κ B F L h a w hst hn hk hdn next Q hnext
  obtain ⟨e, hL, hq⟩ := hk.1
  have hL : L s = some e := hL
  have hq : tipE E r.sz (a.gt s) e := hq
  have hxv : SlRel r h (a.gt s) xs := val_slice.1 (hx h a hn)
  have hyv := val_slice.1 (hy h a hn)
  have hrun : ∀ v w', (Builtin.append_ #[T, T] o.type #[a.gt s, a.eval y]).run P w = .ok v w' → (execOp a.eval o).run P w = .ok (.value v) w' := by
    intro v w' hr
    have he : a.eval (.tmp s) = a.gt s := rfl
    simp only [execOp, ho, resolve, invoke, builtin, Sem.run_bind, Sem.run_pure, Result.andThen_ok, List.map_toArray, List.map_cons, List.map_nil, he, hr]
  unfold Oper.wp
  -- nothing is appended
  by_cases hy0 : ys = []
  · subst hy0
    obtain ⟨base, cap, hv, hc⟩ := hxv.le
    obtain ⟨base', cap', hv', hc'⟩ := hyv.le
    rw [List.length_nil] at hv'
    rw [hrun _ _ (by rw [hv, hv']; exact run_append_nothing w hT hi base xs.length cap hc base' cap'), ← hv]
    refine hnext _ h w _ (Hle.refl h) (val_slice.2 (by rw [List.append_nil]; exact hxv)) (hst.mv s d) ?_
    rw [hd]
    exact upd_mv hne hL (by rw [gt_put_same (hdn d hd)]; exact hq)
  · have hypos : 0 < ys.length := List.length_pos_iff.2 hy0
    rcases hyv with ⟨_, rfl⟩ | ⟨by_, offy, capy, hyval, _, hyref⟩
    · exact absurd rfl hy0
    obtain ⟨cy, hcy, hcyh⟩ := SlRel.cells hyref
    have hnews : ∀ j u, cy[j]? = some u → w.cell? ((⟨by_, offy, none⟩ : Addr).add j) = some u := fun j u hj => by rw [Addr.add_mid]; exact hst.ext (hcyh j u hj)
    have hcyl : cy.length = ys.length * i.size := by rw [hcy.len, hsz]
    rcases hxv with ⟨⟨base, hxval⟩, rfl⟩ | ⟨b, off, cap, hxval, hcap, hxref⟩
    · -- onto nil
      simp only [List.length_nil, Nat.zero_add] at hbytes h63
      have hr : ∃ v w', (Builtin.append_ #[T, T] o.type #[.slice base 0 0, .slice (some ⟨by_, offy, none⟩) ys.length capy]).run P w = .ok v w' ∧ v = .slice (some ⟨w.heap.size, 0, none⟩) ys.length (grownCap w ys.length 0 E) ∧
          w' = w.drew.alloc (.cells (cy.toArray ++ Builtin.zeroCells (pack r.agg r.zc).cells (grownCap w ys.length 0 E - ys.length)) E) := by
        cases base with
        | none => exact ⟨_, _, run_append_nil (P := P) w T o.type E i _ hT hi hzero ⟨by_, offy, none⟩ ys.length capy cy hcyl hnews hypos (by omega) (by omega), rfl, rfl⟩
        | some a0 =>
          have hr := run_append_grow (P := P) w T o.type E i _ hT hi hzero a0 0 0 [] (by simp) (fun j u hj => by simp at hj) ⟨by_, offy, none⟩ ys.length capy cy hcyl hnews (by omega) (by omega) (growslice_fits (by omega) (by simpa using hbytes))
          rw [Nat.zero_add] at hr
          exact ⟨_, _, hr, rfl, by simp⟩
      obtain ⟨v, w', hr, rfl, rfl⟩ := hr
      rw [hrun _ _ (by rw [hxval, hyval]; exact hr)]
      obtain ⟨h', hle, hst', hsl⟩ := hst.grown (cx := []) (xs := ([] : List α)) E d (grownCap w ys.length 0 E) rfl hcy (by rw [List.length_nil, Nat.zero_add]; exact grownCap_ge w ys.length 0 E)
      simp only [List.length_nil, Nat.zero_add] at hst' hsl
      have he : (#[] : Array Value) ++ cy.toArray = cy.toArray := by simp
      rw [show ([] : List Value).toArray = #[] from rfl, he] at hst'
      refine hnext _ h' _ _ hle (val_slice.2 hsl) hst' ?_
      rw [hd]
      exact upd_set1' hne (.inr ⟨_, 0, _, _, gt_put_same (hdn d hd), by simp⟩)
    · obtain ⟨cx, hcx, hcxh⟩ := SlRel.cells hxref
      by_cases hroom : xs.length + ys.length ≤ cap
      · -- in its place
        rcases hq with ⟨base1, len1, h1, _⟩ | ⟨b1, off1, len1, cap1, h1, h2⟩
        · rw [hxval] at h1
          injection h1 with _ h3 h4
          omega
        rw [hxval] at h1; cases h1
        rw [h2] at hL
        obtain ⟨hcl, cs, hb, hhi⟩ := hst.own (k := Sum.inl s) hL
        have hno := (hcl (b, off + xs.length * r.sz) (by simp [cellsE])).2.2
        have hb' : w.heap[b]? = some (.cells cs E (0, 0)) := hb
        have hcyl' := hcy.len
        have hmul : (xs.length + ys.length) * r.sz ≤ cap * r.sz := Nat.mul_le_mul_right _ hroom
        rw [Nat.add_mul] at hmul
        have hfit : off + xs.length * r.sz + cy.length ≤ cs.size := by omega
        have hr := run_append_roomAt (P := P) (ty := o.type) w hT hi b off xs.length cap cs hb' ⟨by_, offy, none⟩ ys.length capy cy hcyl hnews hcy.flat hroom (by rw [hsz]; exact hfit)
        rw [hsz] at hr
        rw [hrun _ _ (by rw [hxval, hyval]; exact hr)]
        generalize hc2 : (cs.toList.take (off + xs.length * r.sz) ++ cy ++ cs.toList.drop (off + xs.length * r.sz + cy.length)).toArray = cs2
        have hsz2 : cs2.size = cs.size := by rw [← hc2]; simp; omega
        have hlow : ∀ o', o' < off + xs.length * r.sz → cs2[o']? = cs[o']? := by
          intro o' ho'
          rw [← hc2]
          simp only [List.getElem?_toArray, List.append_assoc]
          rw [List.getElem?_append_left (by simp; omega), List.getElem?_take, if_pos ho']
          simp
        have hmid : ∀ j v, cy[j]? = some v → cs2[off + xs.length * r.sz + j]? = some v := by
          intro j v hj
          have hjl := (List.getElem?_eq_some_iff.1 hj).1
          rw [← hc2]
          simp only [List.getElem?_toArray, List.append_assoc]
          rw [List.getElem?_append_right (by simp; omega)]
          have : (List.take (off + xs.length * r.sz) cs.toList).length = off + xs.length * r.sz := by simp; omega
          rw [this, Nat.add_sub_cancel_left, List.getElem?_append_left hjl]; exact hj
        have hw2 : (w.setRow b cs2).heap[b]? = some (.cells cs2 E (0, 0)) := setRow_heap w b cs cs2 E (0, 0) hb'
        have hst1 : St B h (Sum.elim L F) (w.setRow b cs2) := by
          refine hst.write (Sum.inl s) (e := cellsE E b (off + xs.length * r.sz) (off + cap * r.sz)) hL (b := b) (lo := off + xs.length * r.sz) (by simp [cellsE]) hw2 (fun k hk' => setRow_other w b k cs2 hk') (by simp [World.setRow]) rfl rfl rfl ?_ (fun _ _ _ x => x) ?_
          · intro o' v hv
            have ho' : o' < off + xs.length * r.sz := Nat.lt_of_not_le fun hge => by rw [hno o' hge] at hv; cases hv
            rw [hlow o' ho']
            have := hst.ext hv
            rwa [cell?_eq _ _ _ _ _ _ hb'] at this
          · intro e' he'
            have : e' = cellsE E b (off + xs.length * r.sz) (off + cap * r.sz) := by simpa [hL] using he'.symm
            rw [this]
            exact ⟨fun c hc => hc, cs2, hw2, by rw [hsz2]; exact hhi⟩
        obtain ⟨hle, hst2⟩ := hst1.freeze (Sum.inl s) (e := cellsE E b (off + xs.length * r.sz) (off + cap * r.sz)) hL (b := b) (lo := off + xs.length * r.sz) (by simp [cellsE]) hw2 (off + (xs.length + ys.length) * r.sz) (by rw [hsz2, Nat.add_mul]; omega)
          (L' := Sum.elim (set1 L s (cellsE E b (off + (xs.length + ys.length) * r.sz) (off + cap * r.sz))) F) set1_ne (by
            intro e' he'
            rw [set1_eq he']
            refine ⟨?_, cs2, hw2, by rw [hsz2]; exact hhi⟩
            intro q hq
            simp [cellsE] at hq
            subst hq
            exact ⟨⟨(b, off + xs.length * r.sz), by simp [cellsE], rfl, by simp only [Nat.add_mul]; omega⟩, fun _ => Nat.le_refl _⟩)
        have hst3 := hst2.mv s d
        have hh : ∀ j v, (cx ++ cy)[j]? = some v → hadd h b (cs2.toList.take (off + (xs.length + ys.length) * r.sz)) b (off + j) = some v := by
          intro j v hj
          have hjl := (List.getElem?_eq_some_iff.1 hj).1
          rw [List.length_append, hcx.len, hcyl'] at hjl
          have hlen2 : (cs2.toList.take (off + (xs.length + ys.length) * r.sz)).length = off + (xs.length + ys.length) * r.sz := by
            rw [List.length_take, show cs2.toList.length = cs.size from hsz2, Nat.add_mul]; omega
          have hlt : off + j < (cs2.toList.take (off + (xs.length + ys.length) * r.sz)).length := by rw [hlen2, Nat.add_mul]; omega
          rw [hadd_new hlt, ← List.getElem?_eq_getElem hlt, List.getElem?_take, if_pos (by rw [hlen2] at hlt; exact hlt)]
          rw [Array.getElem?_toList]
          by_cases hjx : j < cx.length
          · rw [List.getElem?_append_left hjx] at hj
            rw [hcx.len] at hjx
            rw [hlow _ (by omega)]
            have := hst.ext (hcxh j v hj)
            rwa [cell?_eq _ _ _ _ _ _ hb'] at this
          · rw [List.getElem?_append_right (by omega)] at hj
            have := hmid _ v hj
            rw [hcx.len] at this hjx
            rwa [show off + xs.length * r.sz + (j - xs.length * r.sz) = off + j from by omega] at this
        refine hnext _ _ _ _ hle (val_slice.2 (.inr ⟨b, off, cap, by rw [List.length_append], by rw [List.length_append]; exact hroom, ?_⟩)) hst3 ?_
        · exact ((hcx.append hcy).mono hle).refs hh
        · rw [hd]
          exact upd_mv' (fun k hk => by simp [set1, hk]) hne (by simp [set1]) (.inr ⟨b, off, xs.length + ys.length, cap, gt_put_same (hdn d hd), rfl⟩)
      · -- in a new array
        have hr := run_append_grow (P := P) w T o.type E i _ hT hi hzero ⟨b, off, none⟩ xs.length cap cx (by rw [hcx.len, hsz]) (fun j u hj => by rw [Addr.add_mid]; exact hst.ext (hcxh j u hj)) ⟨by_, offy, none⟩ ys.length capy cy hcyl hnews (by omega) (by omega) (growslice_fits (by omega) hbytes)
        rw [hrun _ _ (by rw [hxval, hyval]; exact hr)]
        obtain ⟨h', hle, hst', hsl⟩ := hst.grown E d (grownCap w (xs.length + ys.length) cap E) hcx hcy (grownCap_ge w _ cap E)
        refine hnext _ h' _ _ hle (val_slice.2 hsl) hst' ?_
        rw [hd]
        exact upd_set1' hne (.inr ⟨_, 0, _, _, gt_put_same (hdn d hd), by simp⟩)
theorem ok_append {T E : TypeId} {r : Rep α} {s d : Nat} {y : Operand} {xs ys zs : List α} (hz : app xs ys = some zs) (el : ElOk P E r) (hT : P.underlying T = some (.slice E)) (hsd : Nat.beq s d = false) (hd : o.dst = some d)
    (ho : o.op = .call { callee := .builtin .append, args := #[.tmp s, y], argTypes := #[T, T] }) (hx : OpdOk N (.tmp s) (fV (Rep.slice r) xs)) (hy : OpdOk N y (fV (Rep.slice r) ys)) :
    OpOk P o N [(s, tipE E r.sz)] (fV (Rep.slice r) zs) [(s, none), (d, some (tipE E r.sz))] := by
  obtain ⟨rfl, hlim⟩ := app_spec hz
  exact ok_appendC (fun i _ hby => by have := Nat.mul_le_mul hlim hby; unfold lim at this; omega) (by unfold lim at hlim; omega) el hT hsd hd ho hx hy
/- an append that is bounded by its bytes, b an element -/
def appB (b : Nat) (xs ys : List α) : Option (List α) := bif Nat.ble ((xs.length + ys.length) * b) 140737488355328 then some (xs ++ ys) else none
theorem ok_appendB {T E : TypeId} {r : Rep α} {s d b : Nat} {y : Operand} {xs ys zs : List α} (hz : appB (b + 1) xs ys = some zs) (hb : (P.info? E).map (fun i => i.bytes) = some (b + 1)) (el : ElOk P E r) (hT : P.underlying T = some (.slice E)) (hsd : Nat.beq s d = false) (hd : o.dst = some d)
    (ho : o.op = .call { callee := .builtin .append, args := #[.tmp s, y], argTypes := #[T, T] }) (hx : OpdOk N (.tmp s) (fV (Rep.slice r) xs)) (hy : OpdOk N y (fV (Rep.slice r) ys)) :
    OpOk P o N [(s, tipE E r.sz)] (fV (Rep.slice r) zs) [(s, none), (d, some (tipE E r.sz))] := by
  unfold appB at hz
  cases hc : Nat.ble ((xs.length + ys.length) * (b + 1)) 140737488355328 with
  | false => rw [hc] at hz; cases hz
  | true =>
    rw [hc] at hz
    cases hz
    have hle := Nat.le_of_ble_eq_true hc
    refine ok_appendC (fun i hi _ => ?_) ?_ el hT hsd hd ho hx hy
    · rw [hi] at hb
      have : i.bytes = b + 1 := by simpa using hb
      rw [this]; exact hle
    · have := Nat.le_mul_of_pos_right (xs.length + ys.length) (show 0 < b + 1 by omega)
      omega
end Go.KB
