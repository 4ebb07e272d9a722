/- Appending, making, cutting slices; rows that are written. Rows that are made and written; cuts of slices; texts; comparisons. Texts; comparisons of bools and structs. Branches, loops, calls, returns. Function values; functions that hand a row back; a slice against nil. Functions that write what the caller owns: a row, a part of a row, a variable. No condition. -/
import Derived.Test.YtalkbgomndhkmaaGreatKZa
import Derived.Laws.StructEq
import Derived.Laws.Strings
import Derived.WalkSpells
import Derived.Lib.BufferMore
namespace Go.KB
variable {P:Program} {o:Oper} {N:List (Nat×aZ)} {f:aZ} {α β:Type}
def mv (L:Nat→Option iH) (s d:Nat):Nat→Option iH:=fun k=>if k=d then L s else if k=s then none else L k
theorem St.mv {κ:Type} {B:Base} {h:H} {L:Nat→Option iH} {F:κ→Option iH} {w:World} (hst:St B h (Sum.elim L F) w) (s d:Nat):St B h (Sum.elim (mv L s d) F) w:=by
 refine hst.AY (fun k=>match k with | .inr k=>.inr k | .inl k=>if k=d then .inl s else .inl k) ?_ ?_
 ·intro k' e hk
  cases k' with
  | inr k=>exact hk
  | inl k =>
   simp only [Sum.elim_inl,KB.mv] at hk
   simp only []
   split at hk
   ·rename_i h1;rw [if_pos h1];exact hk
   ·rename_i h1
    rw [if_neg h1]
    split at hk
    ·cases hk
    ·exact hk
 ·intro k k' e e' hk hk' hne
  cases k with
  | inr k=>cases k' with
   | inr k'=>intro he;exact hne he
   | inl k'=>intro he;simp only [] at he;split at he <;> cases he
  | inl k=>cases k' with
   | inr k'=>intro he;simp only [] at he;split at he <;> cases he
   | inl k' =>
    simp only [Sum.elim_inl,KB.mv] at hk hk'
    have hne':k≠k':=fun x=>hne (by rw [x])
    simp only []
    intro he
    split at he <;> split at he
    ·rename_i h1 h2;exact hne' (h1.trans h2.symm)
    ·rename_i h1 h2
     have:=Sum.inl.inj he
     rw [if_neg h2,if_pos this.symm] at hk';cases hk'
    ·rename_i h1 h2
     have:=Sum.inl.inj he
     rw [if_neg h1,if_pos this] at hk;cases hk
    ·exact hne' (Sum.inl.inj he)
theorem NH {L0 L:Nat→Option iH} {s d:Nat} {e:iH} {q:dU} {a:Act} (hL0:∀ k,k≠s→L k=L0 k) (hsd:s≠d) (hL:L s=some e) (hq:q (a.gt d) e):Ec L0 (mv L s d) (full [(s,none),(d,some q)] (some d)) a:=by
  intro k
  have VK:Nat.beq s d=false:=by rw [Bool.eq_false_iff,Ne,iP];exact hsd
  by_cases hk:k=d
  · subst hk
    have:qx (full [(s,none),(k,some q)] (some k)) k=some (some q):=by simp [full,qx,VK,Nat.beq_refl]
    rw [this];exact ⟨e,by simp [mv,hL],hq⟩
  · by_cases hks : k = s
    · subst hks
      have:qx (full [(k,none),(d,some q)] (some d)) k=some none:=by simp [full,qx,Nat.beq_refl]
      rw [this];trivial
    · have h1 : Nat.beq s k = false := by rw [Bool.eq_false_iff, Ne, iP]; exact fun x => hks x.symm
      have h2:Nat.beq d k=false:=by rw [Bool.eq_false_iff,Ne,iP];exact fun x=>hk x.symm
      have:qx (full [(s,none),(d,some q)] (some d)) k=none:=by simp [full,qx,h1,h2]
      rw [this];simp only [mv,hk,hks,if_false];exact hL0 k hks
theorem FZ {L:Nat→Option iH} {s d:Nat} {e:iH} {q:dU} {a:Act} (hsd:s≠d) (hL:L s=some e) (hq:q (a.gt d) e):Ec L (mv L s d) (full [(s,none),(d,some q)] (some d)) a:=NH (fun _ _=>rfl) hsd hL hq
theorem eX {q:dU} {s d:Nat} (hsd:Nat.beq s d=false) (hd:o.dst=some d) (ho:o.op = .move (.tmp s)∨o.op = .assign (.tmp s)) (hx:bW N (.tmp s) f):dR P o N [(s,q)] f [(s,none),(d,some q)]:=by
 intro κ B F L h a w hst hn hk hdn next Q hnext _
 obtain ⟨e,hL,hq⟩:=hk.1
 have hne:s≠d:=fun x=>by rw [iP.2 x] at hsd;cases hsd
 unfold Oper.pY
 have:(execOp a.eval o).run P w = .ok (.value (a.gt s)) w:=by rcases ho with ho | ho <;> (simp [execOp,ho,Act.eval,Act.gt])
 rw [this]
 refine hnext _ h w _ (mQ.refl h) (hx h a hn) (hst.mv s d) ?_
 rw [hd]
 exact FZ hne hL (by rw [iF (hdn d hd)];exact hq)
theorem fJ {E:TypeId} {r:Rep α} {sz d:Nat} (hd:o.dst=some d) (ho:o.op = .assign (.const (.slice none 0 0))∨o.op = .move (.const (.slice none 0 0))):dR P o N [] (fV (Rep.slice r) []) [(d,some (eU E sz))]:=by
 intro κ B F L h a w hst hn _ hdn next Q hnext _
 unfold Oper.pY
 have:(execOp a.eval o).run P w = .ok (.value (.slice none 0 0)) w:=by rcases ho with ho | ho <;> (simp [execOp,ho];rfl)
 rw [this]
 have hst':St B h (Sum.elim (set1 L d Dc) F) w:=by
  refine hst.step (Sum.inl d) (fun _=>False) (fun b hb=>hb.elim) (Nat.le_refl _) rfl rfl rfl (fun _ _ _=>rfl) (mQ.refl h) (fun _ _ _ _=>rfl) ?_ sN ?_
  ·rintro b o' v (hb | hb) hv
   ·exact hb.elim
   ·rw [hst.fresh hb] at hv;cases hv
  ·intro e' he;rw [sO he];exact ⟨fun c hc=>(by cases hc),trivial⟩
 refine hnext _ h w _ (mQ.refl h) (mP.2 (.inl ⟨⟨none,rfl⟩,rfl⟩)) hst' ?_
 rw [hd]
 exact nO (.inl ⟨none,0,iF (hdn d hd),rfl⟩)
def lim:Nat:=2 ^ 37
def app (xs ys:List α):Option (List α):=bif Nat.ble (xs.length+ys.length) lim then some (xs ++ ys) else none
theorem Pn {xs ys zs:List α} (h:app xs ys=some zs):zs=xs ++ ys∧xs.length+ys.length≤lim:=by
 unfold app at h
 cases hb:Nat.ble (xs.length+ys.length) lim with
 | true=>rw [hb] at h;cases h;exact ⟨rfl,Nat.le_of_ble_eq_true hb⟩
 | false=>rw [hb] at h;cases h
theorem AZ {T ty E:TypeId} {i:TypeInfo} (w:World) (ht:P.underlying T=some (.slice E)) (hi:P.info? E=some i) (g off sLen sCap:Nat) (cur:Array Value) (hg:w.heap[g]? = some (.cells cur E (0,0)))
  (a:Addr) (m c:Nat) (news:List Value) (hl:news.length=m * i.size) (hnews:∀ j u,news[j]? = some u→w.cell? (a.add j)=some u) (h1:∀ u ∈ news,u.oneCell'=true) (hroom:sLen+m≤sCap) (hfit:off+sLen * i.size+news.length≤cur.size) :
  (Builtin.append_ #[T,T] ty #[.slice (some ⟨g,off,none⟩) sLen sCap,.slice (some a) m c]).run P w =
   .ok (.slice (some ⟨g,off,none⟩) (sLen+m) sCap) (w.setRow g (cur.toList.take (off+sLen * i.size) ++ news ++ cur.toList.drop (off+sLen * i.size+news.length)).toArray):=by
 have hf:=run_firstCells_some (P:=P) w i.size m a m c news hl hnews
 have hst:=run_storeCells_at P g (off+sLen * i.size) E news 0 cur w hg (by simpa using hfit) h1
 simp only [Nat.add_zero] at hst
 simp [Builtin.append_,run_underlying ht,sizeOf,typeInfo,hi,Builtin.lenOf,hroom,hf,Addr.add_mid,hst]
theorem run_append_nothing {T ty E:TypeId} {i:TypeInfo} (w:World) (ht:P.underlying T=some (.slice E)) (hi:P.info? E=some i) (base:Option Addr) (sLen sCap:Nat) (hl:sLen≤sCap) (y:Option Addr) (c:Nat) :
  (Builtin.append_ #[T,T] ty #[.slice base sLen sCap,.slice y 0 c]).run P w = .ok (.slice base sLen sCap) w:=by
 have hf:(Builtin.firstCells i.size 0 (.slice y 0 c)).run P w = .ok #[] w:=by
  cases y with
  | none=>rfl
  | some a=>simp [Builtin.firstCells,loadCells,loadCellsFrom]
 cases base with
 | none=>simp [Builtin.append_,run_underlying ht,sizeOf,typeInfo,hi,Builtin.lenOf,hl,hf]
 | some b=>simp [Builtin.append_,run_underlying ht,sizeOf,typeInfo,hi,Builtin.lenOf,hl,hf,storeCells]
theorem xR.le {r:Rep α} {h:H} {v:Value} {xs:List α} (k:xR r h v xs):∃ base cap,v = .slice base xs.length cap∧xs.length≤cap:=by
 rcases k with ⟨⟨base,rfl⟩,rfl⟩ | ⟨b,off,cap,rfl,hc,_⟩
 ·exact ⟨base,0,rfl,Nat.le_refl _⟩
 ·exact ⟨_,cap,rfl,hc⟩
theorem zlen (z:Array Value) (n:Nat):(Builtin.zeroCells z n).toList.length=n * z.size:=by rw [Array.length_toList,size_zeroCells]
theorem BX {L:Nat→Option iH} {s d:Nat} {e:iH} {q:dU} {a:Act} (hsd:s≠d) (hq:q (a.gt d) e):Ec L (set1 L d e) (full [(s,none),(d,some q)] (some d)) a:=by
  intro k
  have VK:Nat.beq s d=false:=by rw [Bool.eq_false_iff,Ne,iP];exact hsd
  by_cases hk:k=d
  · subst hk
    have:qx (full [(s,none),(k,some q)] (some k)) k=some (some q):=by simp [full,qx,VK,Nat.beq_refl]
    rw [this];exact ⟨e,by simp [set1],hq⟩
  · by_cases hks : k = s
    · subst hks
      have:qx (full [(k,none),(d,some q)] (some d)) k=some none:=by simp [full,qx,Nat.beq_refl]
      rw [this];trivial
    · have h1 : Nat.beq s k = false := by rw [Bool.eq_false_iff, Ne, iP]; exact fun x => hks x.symm
      have h2:Nat.beq d k=false:=by rw [Bool.eq_false_iff,Ne,iP];exact fun x=>hk x.symm
      have:qx (full [(s,none),(d,some q)] (some d)) k=none:=by simp [full,qx,h1,h2]
      rw [this];simp [set1,hk]

theorem St.grown {κ:Type} {B:Base} {h:H} {L:Nat→Option iH} {F:κ→Option iH} {w:World} (hst:St B h (Sum.elim L F) w) {r:Rep α} {cx cy:List Value} {xs ys:List α} (E:TypeId) (d cap:Nat) (hx:rF r h cx xs) (hy:rF r h cy ys) (hge:xs.length+ys.length≤cap) :
  ∃ h',mQ h h'∧St B h' (Sum.elim (set1 L d (cellsE E w.heap.size ((xs.length+ys.length) * r.sz) (cap * r.sz))) F) (w.drew.alloc (.cells (cx.toArray ++ cy.toArray ++ Builtin.zeroCells (pack r.agg r.zc).cells (cap - (xs.length+ys.length))) E)) ∧
   xR r h' (.slice (some ⟨w.heap.size,0,none⟩) (xs.length+ys.length) cap) (xs ++ ys):=by
 have hzc:(pack r.agg r.zc).cells.size=r.sz:=by rw [tC (r.wB h)];simp [r.len (r.wB h)]
 have hxy:=hx.append hy
 obtain ⟨h',hle,hst',hsl⟩:=(hst.drawn (w.drawn+1) (Nat.le_succ _)).newRow (rest:=(Builtin.zeroCells (pack r.agg r.zc).cells (cap - (xs.length+ys.length))).toList) E d cap hxy (by
  rw [List.length_append,hxy.len,zlen,hzc,← Nat.add_mul,List.length_append];congr 1;omega) (by rw [List.length_append];exact hge)
 rw [List.length_append] at hst' hsl
 refine ⟨h',hle,?_,hsl⟩
 have:(cx.toArray ++ cy.toArray ++ Builtin.zeroCells (pack r.agg r.zc).cells (cap - (xs.length+ys.length)))=((cx ++ cy) ++ (Builtin.zeroCells (pack r.agg r.zc).cells (cap - (xs.length+ys.length))).toList).toArray:=by
  apply Array.ext';simp
 rw [this]
 exact hst'
theorem QV {T E : TypeId} {r : Rep α} {s d : Nat} {y : Operand} {xs ys : List α} (hbb : ∀ i, P.info? E = some i → i.bytes ≤ 1024 → (xs.length + ys.length) * i.bytes ≤ 140737488355328) (h63 : xs.length + ys.length ≤ 9223372036854775807) (el : y8 P E r) (hT : P.underlying T = some (.slice E)) (hsd : Nat.beq s d = false) (hd : o.dst = some d)
    (ho:o.op = .call { callee:=.builtin .append,args:=#[.tmp s,y],argTypes:=#[T,T] }) (hx:bW N (.tmp s) (fV (Rep.slice r) xs)) (hy:bW N y (fV (Rep.slice r) ys)) :
    dR P o N [(s,eU E r.sz)] (fV (Rep.slice r) (xs ++ ys)) [(s,none),(d,some (eU E r.sz))]:=by
  obtain ⟨i,hi,hsz,hby,hzero⟩:=el.out
  have hne:s≠d:=fun x=>by rw [iP.2 x] at hsd;cases hsd
  have hbytes:(xs.length+ys.length) * i.bytes≤140737488355328:=hbb i hi hby
  intro κ B F L h a w hst hn hk hdn next Q hnext _
  obtain ⟨e,hL,hq⟩:=hk.1
  have hL:L s=some e:=hL
  have hq:eU E r.sz (a.gt s) e:=hq
  have hxv:xR r h (a.gt s) xs:=mP.1 (hx h a hn)
  have hyv:=mP.1 (hy h a hn)
  have hrun:∀ v w',(Builtin.append_ #[T,T] o.type #[a.gt s,a.eval y]).run P w = .ok v w'→(execOp a.eval o).run P w = .ok (.value v) w':=by
    intro v w' hr
    have he:a.eval (.tmp s)=a.gt s:=rfl
    simp only [execOp,ho,resolve,invoke,builtin,Sem.run_bind,Sem.run_pure,Result.andThen_ok,List.map_toArray,List.map_cons,List.map_nil,he,hr]
  unfold Oper.pY
  -- nothing is appended
  by_cases hy0:ys=[]
  · subst hy0
    obtain ⟨base,cap,hv,hc⟩:=hxv.le
    obtain ⟨base',cap',hv',hc'⟩:=hyv.le
    rw [List.length_nil] at hv'
    rw [hrun _ _ (by rw [hv,hv'];exact run_append_nothing w hT hi base xs.length cap hc base' cap'),← hv]
    refine hnext _ h w _ (mQ.refl h) (mP.2 (by rw [List.append_nil];exact hxv)) (hst.mv s d) ?_
    rw [hd]
    exact FZ hne hL (by rw [iF (hdn d hd)];exact hq)
  · have hypos:0<ys.length:=List.length_pos_iff.2 hy0
    rcases hyv with ⟨_,rfl⟩ | ⟨Gt,Ja,Lh,IL,_,VQ⟩
    · exact absurd rfl hy0
    obtain ⟨cy,hcy,Zq⟩:=xR.cells VQ
    have hnews:∀ j u,cy[j]? = some u→w.cell? ((⟨Gt,Ja,none⟩:Addr).add j)=some u:=fun j u hj=>by rw [Addr.add_mid];exact hst.ext (Zq j u hj)
    have NI:cy.length=ys.length * i.size:=by rw [hcy.len,hsz]
    rcases hxv with ⟨⟨base,hxval⟩,rfl⟩ | ⟨b,off,cap,hxval,hcap,hxref⟩
    · -- onto nil
      simp only [List.length_nil,Nat.zero_add] at hbytes h63
      have hr:∃ v w',(Builtin.append_ #[T,T] o.type #[.slice base 0 0,.slice (some ⟨Gt,Ja,none⟩) ys.length Lh]).run P w = .ok v w'∧v = .slice (some ⟨w.heap.size,0,none⟩) ys.length (grownCap w ys.length 0 E) ∧
          w'=w.drew.alloc (.cells (cy.toArray ++ Builtin.zeroCells (pack r.agg r.zc).cells (grownCap w ys.length 0 E - ys.length)) E):=by
        cases base with
        | none=>exact ⟨_,_,run_append_nil (P:=P) w T o.type E i _ hT hi hzero ⟨Gt,Ja,none⟩ ys.length Lh cy NI hnews hypos (by omega) (by omega),rfl,rfl⟩
        | some a0 =>
          have hr:=run_append_grow (P:=P) w T o.type E i _ hT hi hzero a0 0 0 [] (by simp) (fun j u hj=>by simp at hj) ⟨Gt,Ja,none⟩ ys.length Lh cy NI hnews (by omega) (by omega) (growslice_fits (by omega) (by simpa using hbytes))
          rw [Nat.zero_add] at hr
          exact ⟨_,_,hr,rfl,by simp⟩
      obtain ⟨v,w',hr,rfl,rfl⟩:=hr
      rw [hrun _ _ (by rw [hxval,IL];exact hr)]
      obtain ⟨h',hle,hst',hsl⟩:=hst.grown (cx:=[]) (xs:=([]:List α)) E d (grownCap w ys.length 0 E) rfl hcy (by rw [List.length_nil,Nat.zero_add];exact grownCap_ge w ys.length 0 E)
      simp only [List.length_nil,Nat.zero_add] at hst' hsl
      have he:(#[]:Array Value) ++ cy.toArray=cy.toArray:=by simp
      rw [show ([]:List Value).toArray = #[] from rfl,he] at hst'
      refine hnext _ h' _ _ hle (mP.2 hsl) hst' ?_
      rw [hd]
      exact BX hne (.inr ⟨_,0,_,_,iF (hdn d hd),by simp⟩)
    · obtain ⟨cx,hcx,hcxh⟩:=xR.cells hxref
      by_cases hroom:xs.length+ys.length≤cap
      · -- in its place
        rcases hq with ⟨base1,len1,h1,_⟩ | ⟨b1,off1,len1,cap1,h1,h2⟩
        · rw [hxval] at h1
          injection h1 with _ h3 h4
          omega
        rw [hxval] at h1;cases h1
        rw [h2] at hL
        obtain ⟨hcl,cs,hb,hhi⟩:=hst.own (k:=Sum.inl s) hL
        have hno:=(hcl (b,off+xs.length * r.sz) (by simp [cellsE])).2.2
        have hb':w.heap[b]? = some (.cells cs E (0,0)):=hb
        have Yq:=hcy.len
        have hmul:(xs.length+ys.length) * r.sz≤cap * r.sz:=Nat.mul_le_mul_right _ hroom
        rw [Nat.add_mul] at hmul
        have hfit:off+xs.length * r.sz+cy.length≤cs.size:=by omega
        have hr:=AZ (P:=P) (ty:=o.type) w hT hi b off xs.length cap cs hb' ⟨Gt,Ja,none⟩ ys.length Lh cy NI hnews hcy.flat hroom (by rw [hsz];exact hfit)
        rw [hsz] at hr
        rw [hrun _ _ (by rw [hxval,IL];exact hr)]
        generalize hc2:(cs.toList.take (off+xs.length * r.sz) ++ cy ++ cs.toList.drop (off+xs.length * r.sz+cy.length)).toArray=cs2
        have hsz2:cs2.size=cs.size:=by rw [← hc2];simp;omega
        have hlow:∀ o',o'<off+xs.length * r.sz→cs2[o']? = cs[o']?:=by
          intro o' ho'
          rw [← hc2]
          simp only [List.getElem?_toArray,List.append_assoc]
          rw [List.getElem?_append_left (by simp;omega),List.getElem?_take,if_pos ho']
          simp
        have hmid:∀ j v,cy[j]? = some v→cs2[off+xs.length * r.sz+j]? = some v:=by
          intro j v hj
          have hjl:=(List.getElem?_eq_some_iff.1 hj).1
          rw [← hc2]
          simp only [List.getElem?_toArray,List.append_assoc]
          rw [List.getElem?_append_right (by simp;omega)]
          have:(List.take (off+xs.length * r.sz) cs.toList).length=off+xs.length * r.sz:=by simp;omega
          rw [this,Nat.add_sub_cancel_left,List.getElem?_append_left hjl];exact hj
        have hw2:(w.setRow b cs2).heap[b]? = some (.cells cs2 E (0,0)):=setRow_heap w b cs cs2 E (0,0) hb'
        have hst1:St B h (Sum.elim L F) (w.setRow b cs2):=by
          refine hst.write (Sum.inl s) (e:=cellsE E b (off+xs.length * r.sz) (off+cap * r.sz)) hL (b:=b) (lo:=off+xs.length * r.sz) (by simp [cellsE]) hw2 (fun k hk'=>setRow_other w b k cs2 hk') (by simp [World.setRow]) rfl rfl rfl ?_ (fun _ _ _ x=>x) ?_
          · intro o' v hv
            have ho':o'<off+xs.length * r.sz:=Nat.lt_of_not_le fun hge=>by rw [hno o' hge] at hv;cases hv
            rw [hlow o' ho']
            have:=hst.ext hv
            rwa [vk _ _ _ _ _ _ hb'] at this
          · intro e' he'
            have:e'=cellsE E b (off+xs.length * r.sz) (off+cap * r.sz):=by simpa [hL] using he'.symm
            rw [this]
            exact ⟨fun c hc=>hc,cs2,hw2,by rw [hsz2];exact hhi⟩
        obtain ⟨hle, hst2⟩ := hst1.freeze (Sum.inl s) (e := cellsE E b (off + xs.length * r.sz) (off + cap * r.sz)) hL (b := b) (lo := off + xs.length * r.sz) (by simp [cellsE]) hw2 (off + (xs.length + ys.length) * r.sz) (by rw [hsz2, Nat.add_mul]; omega)
          (L':=Sum.elim (set1 L s (cellsE E b (off+(xs.length+ys.length) * r.sz) (off+cap * r.sz))) F) sN (by
            intro e' he'
            rw [sO he']
            refine ⟨?_,cs2,hw2,by rw [hsz2];exact hhi⟩
            intro q hq
            simp [cellsE] at hq
            subst hq
            exact ⟨⟨(b,off+xs.length * r.sz),by simp [cellsE],rfl,by simp only [Nat.add_mul];omega⟩,fun _=>Nat.le_refl _⟩)
        have hst3:=hst2.mv s d
        have hh:∀ j v,(cx ++ cy)[j]? = some v→hadd h b (cs2.toList.take (off+(xs.length+ys.length) * r.sz)) b (off+j)=some v:=by
          intro j v hj
          have hjl:=(List.getElem?_eq_some_iff.1 hj).1
          rw [List.length_append,hcx.len,Yq] at hjl
          have hlen2:(cs2.toList.take (off+(xs.length+ys.length) * r.sz)).length=off+(xs.length+ys.length) * r.sz:=by
            rw [List.length_take,show cs2.toList.length=cs.size from hsz2,Nat.add_mul];omega
          have hlt:off+j<(cs2.toList.take (off+(xs.length+ys.length) * r.sz)).length:=by rw [hlen2,Nat.add_mul];omega
          rw [zZ hlt,← List.getElem?_eq_getElem hlt,List.getElem?_take,if_pos (by rw [hlen2] at hlt;exact hlt)]
          rw [Array.getElem?_toList]
          by_cases hjx:j<cx.length
          · rw [List.getElem?_append_left hjx] at hj
            rw [hcx.len] at hjx
            rw [hlow _ (by omega)]
            have:=hst.ext (hcxh j v hj)
            rwa [vk _ _ _ _ _ _ hb'] at this
          · rw [List.getElem?_append_right (by omega)] at hj
            have:=hmid _ v hj
            rw [hcx.len] at this hjx
            rwa [show off+xs.length * r.sz+(j - xs.length * r.sz)=off+j from by omega] at this
        refine hnext _ _ _ _ hle (mP.2 (.inr ⟨b,off,cap,by rw [List.length_append],by rw [List.length_append];exact hroom,?_⟩)) hst3 ?_
        · exact ((hcx.append hcy).mono hle).refs hh
        · rw [hd]
          exact NH (fun k hk=>by simp [set1,hk]) hne (by simp [set1]) (.inr ⟨b,off,xs.length+ys.length,cap,iF (hdn d hd),rfl⟩)
      · -- in a new array
        have hr:=run_append_grow (P:=P) w T o.type E i _ hT hi hzero ⟨b,off,none⟩ xs.length cap cx (by rw [hcx.len,hsz]) (fun j u hj=>by rw [Addr.add_mid];exact hst.ext (hcxh j u hj)) ⟨Gt,Ja,none⟩ ys.length Lh cy NI hnews (by omega) (by omega) (growslice_fits (by omega) hbytes)
        rw [hrun _ _ (by rw [hxval,IL];exact hr)]
        obtain ⟨h',hle,hst',hsl⟩:=hst.grown E d (grownCap w (xs.length+ys.length) cap E) hcx hcy (grownCap_ge w _ cap E)
        refine hnext _ h' _ _ hle (mP.2 hsl) hst' ?_
        rw [hd]
        exact BX hne (.inr ⟨_,0,_,_,iF (hdn d hd),by simp⟩)
theorem qX {T E:TypeId} {r:Rep α} {s d:Nat} {y:Operand} {xs ys zs:List α} (hz:app xs ys=some zs) (el:y8 P E r) (hT:P.underlying T=some (.slice E)) (hsd:Nat.beq s d=false) (hd:o.dst=some d)
  (ho:o.op = .call { callee:=.builtin .append,args:=#[.tmp s,y],argTypes:=#[T,T] }) (hx:bW N (.tmp s) (fV (Rep.slice r) xs)) (hy:bW N y (fV (Rep.slice r) ys)) :
  dR P o N [(s,eU E r.sz)] (fV (Rep.slice r) zs) [(s,none),(d,some (eU E r.sz))]:=by
 obtain ⟨rfl,hlim⟩:=Pn hz
 exact QV (fun i _ hby=>by have:=Nat.mul_le_mul hlim hby;unfold lim at this;omega) (by unfold lim at hlim;omega) el hT hsd hd ho hx hy
end Go.KB
namespace Go.KB
variable {P:Program} {o:Oper} {N:List (Nat×aZ)} {f:aZ} {α β:Type}
def oO (b:Nat) (E:TypeId) (r:Rep α) (xs:List α) (cap:Nat):iH where
 claims:=[(b,0)]
 ok:=fun h m=>∃ cs rest,m b=some (.cells (cs ++ rest).toArray E (0,0))∧rF r h cs xs∧(cs ++ rest).length=cap * r.sz
 mono:=by rintro h h' m hl ⟨cs,rest,e,k,l⟩;exact ⟨cs,rest,e,k.mono hl,l⟩
 frame:=fun hm ⟨cs,rest,e,k,l⟩=>⟨cs,rest,by rw [hm (b,0) (by simp)];exact e,k,l⟩
def fG (E:TypeId) (r:Rep α) (xs:List α):dU:=fun v e=>((∃ base,v = .slice base 0 0)∧xs=[]∧e=Dc)∨∃ b cap,v = .slice (some ⟨b,0,none⟩) xs.length cap∧xs.length≤cap∧e=oO b E r xs cap
def QI (s:Nat):aZ:=⟨some s,fun _ d v=>v=d,fun _ x=>x⟩
def fEl (s off:Nat):aZ:=⟨some s,fun _ d v=>∃ b len cap,d = .slice (some ⟨b,0,none⟩) len cap∧v = .pointer (some ⟨b,off,none⟩),fun _ x=>x⟩
def mk (z:α) (m c:Int):Option (List α):=bif decide (0≤m)&&decide (m≤c)&&decide (c≤lim) then some (List.replicate m.toNat z) else none
theorem MC {n:Int} (h0:-9223372036854775808≤n) (h1:n≤9223372036854775807):IntKind.i64.wrap n=n:=IntWalk.i64_in _ ⟨h0,h1⟩
theorem XF (r:Rep α) (c:Nat):(List.replicate c r.zc).flatten.length=c * r.sz:=by
 rw [List.length_flatten];simp [r.len (r.wB (fun _ _=>none))]
theorem rZ {s:Nat} (ho:o.op = .move (.tmp s)):dR P o N [] (QI s) [] :=
 dR.rE fun h a w _ _=>⟨a.gt s,by simp [execOp,ho,Act.eval,Act.gt],rfl⟩
theorem Ez {T E E':TypeId} {r:Rep α} {s:Nat} {x:Operand} {xs:List α} (hT:P.underlying T=some (.slice E')) (ho:o.op = .call { callee:=.builtin .len,args:=#[x],argTypes:=#[T] }) (hx:bW N x (QI s)) :
  dR P o N [(s,fG E r xs)] (fV (Rep.int .i64) (xs.length:Int)) []:=by
 intro κ B F L h a w hst hn hk _ next Q hnext _
 obtain ⟨e,_,hq⟩:=hk.1
 have hx':a.eval x=a.gt s:=hx h a hn
 have:(execOp a.eval o).run P w = .ok (.value (.int .i64 (xs.length:Int))) w:=by
  rcases hq with ⟨⟨base,hv⟩,rfl,_⟩ | ⟨b,cap,hv,_,_⟩
  ·have hv':a.gt s=_:=hv
   simp [execOp,ho,resolve,invoke,builtin,Builtin.len_,hx',hv',run_underlying hT,goInt]
  ·have hv':a.gt s=_:=hv
   simp [execOp,ho,resolve,invoke,builtin,Builtin.len_,hx',hv',run_underlying hT,goInt]
 unfold Oper.pY
 rw [this]
 exact hnext _ h w L (mQ.refl h) (jW.2 rfl) hst mM
theorem uy {xs:List α} {n:Int} {y:α} (h:idx xs n=some y):0≤n∧n.toNat<xs.length∧xs[n.toNat]? = some y:=by
 unfold idx at h
 split at h
 ·cases h
 ·rename_i hn
  exact ⟨by omega,(List.getElem?_eq_some_iff.1 h).1,h⟩
theorem BJ {T E:TypeId} {r:Rep α} {s:Nat} {k:IntKind} {x i:Operand} {xs:List α} {n:Int} {y:α} (hq:idx xs n=some y) (t:jT P E r) (hT:P.underlying T=some (.slice E)) (ho:o.op = .indexAddr T x i) (hx:bW N x (QI s)) (hi:bW N i (fV (Rep.int k) n)) :
  dR P o N [(s,fG E r xs)] (fEl s (n.toNat * r.sz)) []:=by
 obtain ⟨h0,h1,_⟩:=uy hq
 intro κ B F L h a w hst hn hk _ next Q hnext _
 obtain ⟨e,_,⟨_,rfl,_⟩ | ⟨b,cap,hv,_,_⟩⟩:=hk.1
 ·exact absurd h1 (Nat.not_lt_zero _)
 have hx':a.eval x=a.gt s:=hx h a hn
 have hv':a.gt s=_:=hv
 unfold Oper.pY
 have hb:0≤n∧n<xs.length:=by omega
 have:(execOp a.eval o).run P w = .ok (.value (.pointer (some ⟨b,n.toNat * r.sz,none⟩))) w:=by
  simp [execOp,ho,hx',hv',jW.1 (hi h a hn),Instr.indexAt,asIntOf,run_underlying hT,hb,t.size,Addr.add_mid]
 rw [this]
 exact hnext _ h w L (mQ.refl h) ⟨b,_,cap,hv',rfl⟩ hst mM
theorem FX {κ:Type} {B:Base} {h:H} {L:Nat→Option iH} {F:κ→Option iH} {w:World} (hst:St B h (Sum.elim L F) w) {s b cap:Nat} {E:TypeId} {r:Rep α} {xs:List α}
  (hk:L s=some (oO b E r xs cap)):∃ cs rest,w.heap[b]? = some (.cells (cs ++ rest).toArray E (0,0))∧rF r h cs xs∧(cs ++ rest).length=cap * r.sz:=(hst.own (k:=Sum.inl s) hk).2
theorem CO {T E:TypeId} {r:Rep α} {q:Rep β} {s off m:Nat} {x:Operand} {xs:List α} {y:α} {get:α→β} {set:α→β→α} (hy:xs[m]? = some y) (l:Lens r q off get set) (t:jT P T q) (ho:o.op = .load T x) (hx:bW N x (fEl s (m * r.sz+off))) :
  dR P o N [(s,fG E r xs)] (fV q (get y)) []:=by
 intro κ B F L h a w hst hn hk _ next Q hnext _
 obtain ⟨b,len,cap,hd,hv⟩:=hx h a hn
 have hd':a.gt s=_:=hd
 obtain ⟨e,hL,⟨_,rfl,_⟩ | ⟨b',cap',hv',hc,rfl⟩⟩:=hk.1
 ·simp at hy
 rw [hd'] at hv';cases hv'
 obtain ⟨cs,rest,hb,hr,_⟩:=FX hst hL
 obtain ⟨p,c,q',rfl,hp,hcr,_⟩:=hr.get hy
 obtain ⟨p2,c2,q2,rfl,hp2,hc2,_⟩:=l h c y hcr
 unfold Oper.pY
 have hrun:=vX (b:=b) (off:=m * r.sz+off) (w:=w) t (q.len hc2) (fun j v hj=>by
  rw [vk _ _ _ _ _ _ hb]
  have hjl:=(List.getElem?_eq_some_iff.1 hj).1
  simp only [List.getElem?_toArray]
  rw [show p ++ (p2 ++ c2 ++ q2) ++ q' ++ rest=(p ++ p2) ++ (c2 ++ (q2 ++ q' ++ rest)) by simp,List.getElem?_append_right (by simp;omega)]
  rw [show m * r.sz+off+j - (p ++ p2).length=j by simp;omega,List.getElem?_append_left hjl];exact hj)
 have:(execOp a.eval o).run P w = .ok (.value (pack q.agg c2)) w:=by simp [execOp,ho,hv,hrun]
 rw [this]
 exact hnext _ h w L (mQ.refl h) ⟨c2,hc2,rfl⟩ hst mM
theorem IE {T E:TypeId} {r:Rep α} {q:Rep β} {s off m:Nat} {x v:Operand} {xs:List α} {y:α} {z:β} {get:α→β} {set:α→β→α} {xs':List α} (hy:xs[m]? = some y) (l:Lens r q off get set) (t:jT P T q) (hd:o.dst=none) (ho:o.op = .store T x v)
    (hx:bW N x (fEl s (m * r.sz+off))) (hv:bW N v (fV q z)) (hs':xs'=xs.set m (set y z)):dR P o N [(s,fG E r xs)] aZ.rf [(s,some (fG E r xs'))]:=by
  subst hs'
  intro κ B F L h a w hst hn hk _ next Q hnext _
  obtain ⟨b,len,cap,hdv,hxv⟩:=hx h a hn
  have hd':a.gt s=_:=hdv
  obtain ⟨e,hL,⟨_,rfl,_⟩ | ⟨b',cap',hv',hc,rfl⟩⟩:=hk.1
  · simp at hy
  rw [hd'] at hv';cases hv'
  obtain ⟨cs,rest,hb,hr,hlen⟩:=FX hst hL
  obtain ⟨c',hc',hvv⟩:=hv h a hn
  obtain ⟨p,c,q',rfl,hp,hcr,hset⟩:=hr.get hy
  obtain ⟨p2,c2,q2,rfl,hp2,hc2,VH⟩:=l h c y hcr
  have hsh:p ++ (p2 ++ c2 ++ q2) ++ q' ++ rest=(p ++ p2) ++ c2 ++ (q2 ++ q' ++ rest):=by simp
  have hsh':(p ++ p2) ++ c' ++ (q2 ++ q' ++ rest)=(p ++ (p2 ++ c' ++ q2) ++ q') ++ rest:=by simp
  have hb0:=hb
  rw [hsh] at hb
  have hrun:=vw t hc' hb (q.len hc2)
  unfold Oper.pY
  have hpl:(p ++ p2).length=m * r.sz+off:=by simp;omega
  have:(execOp a.eval o).run P w = .ok .skip (w.setRow b ((p ++ p2) ++ c' ++ (q2 ++ q' ++ rest)).toArray):=by
    simp only [execOp,ho,hxv,hvv,← hpl,Sem.run_bind,hrun,Result.andThen_ok,Sem.run_pure]
  rw [this,hsh']
  obtain ⟨hcl,_⟩:=hst.own (k:=Sum.inl s) hL
  have hno:=(hcl (b,0) (by simp [oO])).2.2
  have hrel:=hset h _ _ (mQ.refl h) (VH h c' z (mQ.refl h) hc')
  have hmem:=wY w b (p ++ (p2 ++ c2 ++ q2) ++ q' ++ rest).toArray ((p ++ (p2 ++ c' ++ q2) ++ q') ++ rest).toArray E hb0
  refine hnext undef h _ (set1 L s (oO b E r (xs.set m (set y z)) cap)) (mQ.refl h) trivial ?_ ?_
  · refine hst.write (Sum.inl s) (e := oO b E r xs cap) hL (b := b) (lo := 0) (by simp [oO]) hmem (fun i hi => setRow_other w b i _ hi) (by simp [World.setRow]) rfl rfl rfl ?_ sN ?_
    · intro o' u hh;rw [hno o' (Nat.zero_le _)] at hh;cases hh
    · intro e' he
      rw [sO he]
      refine ⟨fun c hc=>hc,_,rest,hmem,hrel,?_⟩
      rw [← hlen]
      have:=q.len hc';have:=q.len hc2
      simp;omega
  · rw [hd]
    exact nO (.inr ⟨b,cap,by rw [List.length_set];exact hd',by rw [List.length_set];exact hc,rfl⟩)
theorem ul {E:TypeId} {r:Rep α} {d:Nat} (hd:o.dst=some d) (ho:o.op = .assign (.const (.slice none 0 0))∨o.op = .move (.const (.slice none 0 0))):dR P o N [] aZ.rf [(d,some (fG E r []))]:=by
 intro κ B F L h a w hst hn _ hdn next Q hnext _
 unfold Oper.pY
 have:(execOp a.eval o).run P w = .ok (.value (.slice none 0 0)) w:=by rcases ho with ho | ho <;> (simp [execOp,ho];rfl)
 rw [this]
 have hst':St B h (Sum.elim (set1 L d Dc) F) w:=by
  refine hst.step (Sum.inl d) (fun _=>False) (fun b hb=>hb.elim) (Nat.le_refl _) rfl rfl rfl (fun _ _ _=>rfl) (mQ.refl h) (fun _ _ _ _=>rfl) ?_ sN ?_
  ·rintro b o' v (hb | hb) hv
   ·exact hb.elim
   ·rw [hst.fresh hb] at hv;cases hv
  ·intro e' he;rw [sO he];exact ⟨fun c hc=>(by cases hc),trivial⟩
 refine hnext _ h w _ (mQ.refl h) trivial hst' ?_
 rw [hd]
 exact nO (.inl ⟨⟨_,iF (hdn d hd)⟩,rfl,rfl⟩)
theorem LY {E:TypeId} {r:Rep α} {xs:List α} {s d:Nat} {x:Operand} (hsd:Nat.beq s d=false) (hd:o.dst=some d) (ho:o.op = .move x∨o.op = .assign x) (hx:bW N x (QI s)):dR P o N [(s,fG E r xs)] aZ.rf [(s,none),(d,some (fG E r xs))]:=by
 intro κ B F L h a w hst hn hk hdn next Q hnext _
 obtain ⟨e,hL,hq⟩:=hk.1
 have hx':a.eval x=a.gt s:=hx h a hn
 have hne:s≠d:=fun x=>by rw [iP.2 x] at hsd;cases hsd
 unfold Oper.pY
 have:(execOp a.eval o).run P w = .ok (.value (a.gt s)) w:=by rcases ho with ho | ho <;> (simp [execOp,ho,hx'])
 rw [this]
 refine hnext _ h w _ (mQ.refl h) trivial (hst.mv s d) ?_
 rw [hd]
 exact FZ hne hL (by rw [iF (hdn d hd)];exact hq)
theorem St.QW {κ:Type} {B:Base} {h:H} {L:Nat→Option iH} {F:κ→Option iH} {w:World} (hst:St B h (Sum.elim L F) w) {r:Rep α} {cx cy:List Value} {xs ys:List α} (E:TypeId) (d cap:Nat) (hx:rF r h cx xs) (hy:rF r h cy ys) (hge:xs.length+ys.length≤cap) :
  St B h (Sum.elim (set1 L d (oO w.heap.size E r (xs ++ ys) cap)) F) (w.drew.alloc (.cells (cx.toArray ++ cy.toArray ++ Builtin.zeroCells (pack r.agg r.zc).cells (cap - (xs.length+ys.length))) E)):=by
 have hzc:(pack r.agg r.zc).cells.size=r.sz:=by rw [tC (r.wB h)];simp [r.len (r.wB h)]
 have hxy:=hx.append hy
 have he:(cx.toArray ++ cy.toArray ++ Builtin.zeroCells (pack r.agg r.zc).cells (cap - (xs.length+ys.length)))=((cx ++ cy) ++ (Builtin.zeroCells (pack r.agg r.zc).cells (cap - (xs.length+ys.length))).toList).toArray:=by
  apply Array.ext';simp
 rw [he]
 refine (hst.drawn (w.drawn+1) (Nat.le_succ _)).AV _ d _ (by intro c hc;simp [oO] at hc;rw [hc]) ⟨_,_,AX _ _,hxy,?_⟩
 rw [List.length_append,hxy.len,zlen,hzc,← Nat.add_mul,List.length_append];congr 1;omega
def Md (N:List (Nat×aZ)) (x:Operand) (s:Nat) (Q:dU) (E:TypeId) (r:Rep α) (xs:List α):Prop:=∀ h a e,BR N h a→Q (a.gt s) e→fG E r xs (a.eval x) e
theorem Md.cp {x:Operand} {s:Nat} {E:TypeId} {r:Rep α} {xs:List α} (hx:bW N x (QI s)):Md N x s (fG E r xs) E r xs:=fun h a _ n q=>by rw [show a.eval x=a.gt s from hx h a n];exact q
theorem QX {T E:TypeId} {r:Rep α} {s d:Nat} {x y:Operand} {xs ys zs:List α} {Q:dU} (hz:app xs ys=some zs) (el:y8 P E r) (hT:P.underlying T=some (.slice E)) (hsd:Nat.beq s d=false) (hd:o.dst=some d)
  (ho:o.op = .call { callee:=.builtin .append,args:=#[x,y],argTypes:=#[T,T] }) (hx:Md N x s Q E r xs) (hy:bW N y (fV (Rep.slice r) ys)) :
  dR P o N [(s,Q)] aZ.rf [(s,none),(d,some (fG E r zs))]:=by
 obtain ⟨rfl,hlim⟩:=Pn hz
 obtain ⟨i,hi,hsz,hby,hzero⟩:=el.out
 have hne:s≠d:=fun x=>by rw [iP.2 x] at hsd;cases hsd
 have hbytes:(xs.length+ys.length) * i.bytes≤140737488355328:=by
  have:=Nat.mul_le_mul hlim hby
  unfold lim at this;omega
 have h63:xs.length+ys.length≤9223372036854775807:=by unfold lim at hlim;omega
 intro κ B F L h a w hst hn hk hdn next Q hnext _
 obtain ⟨e,hL,hq⟩:=hk.1
 have hL:L s=some e:=hL
 have hq:fG E r xs (a.eval x) e:=hx h a e hn hq
 have hyv:=mP.1 (hy h a hn)
 have hrun:∀ v w',(Builtin.append_ #[T,T] o.type #[a.eval x,a.eval y]).run P w = .ok v w'→(execOp a.eval o).run P w = .ok (.value v) w':=by
  intro v w' hr
  simp only [execOp,ho,resolve,invoke,builtin,Sem.run_bind,Sem.run_pure,Result.andThen_ok,List.map_toArray,List.map_cons,List.map_nil,hr]
 unfold Oper.pY
 by_cases hy0:ys=[]
 ·subst hy0
  obtain ⟨base',cap',hv',hc'⟩:=hyv.le
  rw [List.length_nil] at hv'
  have:∃ base cap,a.eval x = .slice base xs.length cap∧xs.length≤cap:=by
   rcases hq with ⟨⟨base,hv⟩,rfl,_⟩ | ⟨b,cap,hv,hc,_⟩
   ·exact ⟨base,0,hv,Nat.le_refl _⟩
   ·exact ⟨_,cap,hv,hc⟩
  obtain ⟨base,cap,hv,hc⟩:=this
  rw [hrun _ _ (by rw [hv,hv'];exact run_append_nothing w hT hi base xs.length cap hc base' cap'),← hv]
  refine hnext _ h w _ (mQ.refl h) trivial (hst.mv s d) ?_
  rw [hd]
  exact FZ hne hL (by rw [iF (hdn d hd),List.append_nil];exact hq)
 ·have hypos:0<ys.length:=List.length_pos_iff.2 hy0
  rcases hyv with ⟨_,rfl⟩ | ⟨Gt,Ja,Lh,IL,_,VQ⟩
  ·exact absurd rfl hy0
  obtain ⟨cy,hcy,Zq⟩:=xR.cells VQ
  have hnews:∀ j u,cy[j]? = some u→w.cell? ((⟨Gt,Ja,none⟩:Addr).add j)=some u:=fun j u hj=>by rw [Addr.add_mid];exact hst.ext (Zq j u hj)
  have NI:cy.length=ys.length * i.size:=by rw [hcy.len,hsz]
  rcases hq with ⟨⟨base0,hxval⟩,rfl,rfl⟩ | ⟨b,cap,hxval,hcap,rfl⟩
  ·simp only [List.length_nil,Nat.zero_add] at hbytes h63
   have hxval:a.eval x=_:=hxval
   cases base0 with
   | some a0 =>
    have hr:=run_append_grow (P:=P) w T o.type E i _ hT hi hzero a0 0 0 [] (by simp) (fun j u hj=>by simp at hj) ⟨Gt,Ja,none⟩ ys.length Lh cy NI hnews (by omega) (by omega) (growslice_fits (by omega) (by rw [Nat.zero_add];exact hbytes))
    rw [hrun _ _ (by rw [hxval,IL];exact hr)]
    have hst':=hst.QW (cx:=[]) (xs:=([]:List α)) E d (grownCap w (0+ys.length) 0 E) rfl hcy (by rw [List.length_nil];exact grownCap_ge w _ 0 E)
    simp only [List.length_nil] at hst'
    refine hnext _ h _ _ (mQ.refl h) trivial hst' ?_
    rw [hd]
    exact BX hne (.inr ⟨_,_,by rw [iF (hdn d hd),List.nil_append,Nat.zero_add],by have:=grownCap_ge w (0+ys.length) 0 E;simp at this ⊢;omega,by simp⟩)
   | none =>
   have hr:=run_append_nil (P:=P) w T o.type E i _ hT hi hzero ⟨Gt,Ja,none⟩ ys.length Lh cy NI hnews hypos (by omega) (by omega)
   rw [hrun _ _ (by rw [hxval,IL];exact hr)]
   have hst':=hst.QW (cx:=[]) (xs:=([]:List α)) E d (grownCap w ys.length 0 E) rfl hcy (by rw [List.length_nil,Nat.zero_add];exact grownCap_ge w ys.length 0 E)
   simp only [List.length_nil,Nat.zero_add] at hst'
   have he:(#[]:Array Value) ++ cy.toArray=cy.toArray:=by simp
   rw [show ([]:List Value).toArray = #[] from rfl,he] at hst'
   refine hnext _ h _ _ (mQ.refl h) trivial hst' ?_
   rw [hd]
   exact BX hne (.inr ⟨_,_,iF (hdn d hd),by simp;exact grownCap_ge w ys.length 0 E,by simp⟩)
  ·have hxval:a.eval x=_:=hxval
   obtain ⟨cs,rest,hb,hr0,hlen⟩:=FX hst hL
   by_cases hroom:xs.length+ys.length≤cap
   ·have hcl0:=hr0.len
    have Yq:=hcy.len
    have hmul:(xs.length+ys.length) * r.sz≤cap * r.sz:=Nat.mul_le_mul_right _ hroom
    rw [Nat.add_mul] at hmul
    have hlen':cs.length+rest.length=cap * r.sz:=by rw [← hlen,List.length_append]
    have hr:=AZ (P:=P) (ty:=o.type) w hT hi b 0 xs.length cap (cs ++ rest).toArray hb ⟨Gt,Ja,none⟩ ys.length Lh cy NI hnews hcy.flat hroom (by rw [hsz];simp;omega)
    rw [hsz,Nat.zero_add] at hr
    have hnew:((cs ++ rest).toArray.toList.take (xs.length * r.sz) ++ cy ++ (cs ++ rest).toArray.toList.drop (xs.length * r.sz+cy.length))=(cs ++ cy) ++ rest.drop cy.length:=by
     rw [← hcl0]
     simp [List.drop_append]
    rw [hnew] at hr
    rw [hrun _ _ (by rw [hxval,IL];exact hr)]
    obtain ⟨hcl,_⟩:=hst.own (k:=Sum.inl s) hL
    have hno:=(hcl (b,0) (by simp [oO])).2.2
    have hmem:=wY w b (cs ++ rest).toArray ((cs ++ cy) ++ rest.drop cy.length).toArray E hb
    have hst1:St B h (Sum.elim (set1 L s (oO b E r (xs ++ ys) cap)) F) (w.setRow b ((cs ++ cy) ++ rest.drop cy.length).toArray):=by
     refine hst.write (Sum.inl s) (e:=oO b E r xs cap) hL (b:=b) (lo:=0) (by simp [oO]) hmem (fun i hi=>setRow_other w b i _ hi) (by simp [World.setRow]) rfl rfl rfl ?_ sN ?_
     ·intro o' u hh;rw [hno o' (Nat.zero_le _)] at hh;cases hh
     ·intro e' he
      rw [sO he]
      refine ⟨fun c hc=>hc,_,_,hmem,hr0.append hcy,?_⟩
      simp;omega
    refine hnext _ h _ _ (mQ.refl h) trivial (hst1.mv s d) ?_
    rw [hd]
    exact NH (fun k hk=>by simp [set1,hk]) hne (by simp [set1]) (.inr ⟨b,cap,by rw [iF (hdn d hd),List.length_append],by rw [List.length_append];exact hroom,rfl⟩)
   ·have hcl0:=hr0.len
    have hr:=run_append_grow (P:=P) w T o.type E i _ hT hi hzero ⟨b,0,none⟩ xs.length cap cs (by rw [hr0.len,hsz]) (fun j u hj=>by
     rw [Addr.add_mid,Nat.zero_add,vk _ _ _ _ _ _ hb]
     have hjl:=(List.getElem?_eq_some_iff.1 hj).1
     simp only [List.getElem?_toArray]
     rw [List.getElem?_append_left hjl];exact hj) ⟨Gt,Ja,none⟩ ys.length Lh cy NI hnews (by omega) (by omega) (growslice_fits (by omega) hbytes)
    rw [hrun _ _ (by rw [hxval,IL];exact hr)]
    have hst':=hst.QW E d (grownCap w (xs.length+ys.length) cap E) hr0 hcy (grownCap_ge w _ cap E)
    refine hnext _ h _ _ (mQ.refl h) trivial hst' ?_
    rw [hd]
    exact BX hne (.inr ⟨_,_,by rw [iF (hdn d hd),List.length_append],by rw [List.length_append];exact grownCap_ge w _ cap E,rfl⟩)
theorem su {T E:TypeId} {r:Rep α} {s d:Nat} {x y:Operand} {xs ys zs:List α} (hz:app xs ys=some zs) (el:y8 P E r) (hT:P.underlying T=some (.slice E)) (hsd:Nat.beq s d=false) (hd:o.dst=some d)
  (ho:o.op = .call { callee:=.builtin .append,args:=#[x,y],argTypes:=#[T,T] }) (hx:bW N x (QI s)) (hy:bW N y (fV (Rep.slice r) ys)) :
  dR P o N [(s,fG E r xs)] aZ.rf [(s,none),(d,some (fG E r zs))]:=QX hz el hT hsd hd ho (Md.cp hx) hy
theorem At.freeze {κ:Type} {B:Base} {h0:H} {Γ:Ctx} {Λ:Own} {F:κ→Option iH} {n:Nat} {a:Act} {w:World} {E:TypeId} {r:Rep α} {xs:List α} (s:Nat) (hAt:At B h0 Γ Λ F n a w) (hs:Λ s=some (fG E r xs)) :
    At B h0 (fun k=>bif Nat.beq s k then fV (Rep.slice r) xs else Γ k) (fun k=>bif Nat.beq s k then none else Λ k) F n a w:=by
  obtain ⟨h,L,hle,hst,rV,nN,hsz,hdf⟩:=hAt
  obtain ⟨e,hL,⟨⟨base,hv⟩,rfl,rfl⟩ | ⟨b,cap,hv,hc,rfl⟩⟩:=rV s _ hs
  · refine ⟨h, L, hle, hst, fun k q hq => ?_, fun k => ?_, hsz, hdf⟩
    · cases hk:Nat.beq s k with
      | true=>simp only [hk,cond_true] at hq;cases hq
      | false=>simp only [hk,cond_false] at hq;exact rV k q hq
    · cases hk:Nat.beq s k with
      | true =>
        rw [iP] at hk;subst hk
        show aZ.at (bif Nat.beq s s then _ else _) _ _ _
        rw [iP.2 rfl]
        exact mP.2 (.inl ⟨⟨base,hv⟩,rfl⟩)
      | false =>
        show aZ.at (bif Nat.beq s k then _ else _) _ _ _
        rw [hk];exact nN k
  obtain ⟨_,cs,rest,hb,hr,hlen⟩:=hst.own (k:=Sum.inl s) hL
  have hb':w.heap[b]? = some (.cells (cs ++ rest).toArray E (0,0)):=hb
  obtain ⟨hl2,hst2⟩:=hst.freeze (Sum.inl s) (e:=oO b E r xs cap) hL (b:=b) (lo:=0) (by simp [oO]) hb' cs.length (by simp) (L':=Sum.elim (fun k=>if k=s then none else L k) F) (by
    intro k' e' hne he
    cases k' with
    | inr k=>exact he
    | inl k =>
      have:k≠s:=fun x=>hne (by rw [x])
      simpa [this] using he) (fun e' he=>by simp at he)
  have htk:(cs ++ rest).toArray.toList.take cs.length=cs:=by simp
  rw [htk] at hl2 hst2
  refine ⟨_,_,hle.trans hl2,hst2,?_,?_,hsz,hdf⟩
  · intro k q hq
    cases hk:Nat.beq s k with
    | true=>simp only [hk,cond_true] at hq;cases hq
    | false =>
      simp only [hk,cond_false] at hq
      obtain ⟨e,he,hqe⟩:=rV k q hq
      have:k≠s:=fun x=>by rw [iP.2 x.symm] at hk;cases hk
      exact ⟨e,by simp [this,he],hqe⟩
  · intro k
    cases hk:Nat.beq s k with
    | true =>
      rw [iP] at hk;subst hk
      show aZ.at (bif Nat.beq s s then _ else _) _ _ _
      rw [iP.2 rfl]
      refine mP.2 (.inr ⟨b,0,cap,hv,hc,(hr.mono hl2).refs fun j v hj=>?_⟩)
      have hjl:=(List.getElem?_eq_some_iff.1 hj).1
      rw [Nat.zero_add,zZ hjl,← hj,List.getElem?_eq_getElem hjl]
    | false =>
      show aZ.at (bif Nat.beq s k then _ else _) _ _ _
      rw [hk]
      exact (Γ k).mono hl2 (nN k)

def QY (xs:List α) (lo hi:Int):Option (List α):=bif decide (0≤lo)&&decide (lo≤hi)&&decide (hi≤xs.length) then some ((xs.take hi.toNat).drop lo.toNat) else none
theorem Pq {xs ys:List α} {lo hi:Int} (h:QY xs lo hi=some ys):0≤lo∧lo≤hi∧hi≤xs.length∧ys=(xs.take hi.toNat).drop lo.toNat:=by
 unfold QY at h
 cases hb:(decide (0≤lo)&&decide (lo≤hi)&&decide (hi≤xs.length)) with
 | true=>rw [hb] at h;cases h;simp at hb;exact ⟨hb.1.1,hb.1.2,hb.2,rfl⟩
 | false=>rw [hb] at h;cases h
def IQ (N:List (Nat×aZ)) (dflt:Int):Option Operand→Int→Prop
 | none,n=>n=dflt
 | some x,n=>∃ k,bW N x (fV (Rep.int k) n)
theorem UY {N:List (Nat×aZ)} {d:Int}:IQ N d none d:=rfl
theorem UZ {N:List (Nat×aZ)} {d n:Int} {k:IntKind} {x:Operand} (h:bW N x (fV (Rep.int k) n)):IQ N d (some x) n:=⟨k,h⟩
theorem Ic {T E:TypeId} {r:Rep α} {h:H} {a:Act} {w:World} {lo hi:Option Operand} {l m:Int} {len cap:Nat} {base:Option Addr} (hT:P.underlying T=some (.slice E)) (t:jT P E r) (hn:BR N h a) (hl:IQ N 0 lo l) (hm:IQ N len hi m)
  (h0:0≤l) (h1:l≤m) (h2:m≤len) (hc:len≤cap) :
  (Instr.sliceAt T (.slice base len cap) (lo.map a.eval) (hi.map a.eval) none).run P w = .ok (.slice (if cap=l.toNat then base else base.map (·.add (l.toNat * r.sz))) (m.toNat - l.toNat) (cap - l.toNat)) w:=by
 have hmc:0≤m∧m≤(cap:Int):=by omega
 have hlm:0≤l∧l≤((m.toNat:Nat):Int):=by omega
 have hll:0≤l∧l≤(len:Int):=by omega
 cases lo with
 | none =>
  have hl:l=0:=hl
  subst hl
  cases hi with
  | none =>
   have hm:m=len:=hm
   subst hm
   simp [Instr.sliceAt,Instr.slice,run_underlying hT,Instr.sliceBounds,t.size]
  | some y =>
   obtain ⟨k,hy⟩:=hm
   simp [Instr.sliceAt,Instr.slice,run_underlying hT,Instr.sliceBounds,Instr.sliceBound,asIntOf,jW.1 (hy h a hn),hmc,t.size]
 | some x =>
  obtain ⟨k',hx⟩:=hl
  cases hi with
  | none =>
   have hm:m=len:=hm
   subst hm
   simp [Instr.sliceAt,Instr.slice,run_underlying hT,Instr.sliceBounds,Instr.sliceBound,asIntOf,jW.1 (hx h a hn),hll,t.size]
  | some y =>
   obtain ⟨k,hy⟩:=hm
   simp [Instr.sliceAt,Instr.slice,run_underlying hT,Instr.sliceBounds,Instr.sliceBound,asIntOf,jW.1 (hy h a hn),jW.1 (hx h a hn),hmc,hlm,t.size];omega
theorem xR.cut {r:Rep α} {h:H} {v:Value} {xs:List α} {base:Option Addr} {cap:Nat} {l m:Nat} (k:xR r h v xs) (hv:v = .slice base xs.length cap) (h1:l≤m) (h2:m≤xs.length) :
  xR r h (.slice (if cap=l then base else base.map (·.add (l * r.sz))) (m - l) (cap - l)) ((xs.take m).drop l):=by
 have hlen:((xs.take m).drop l).length=m - l:=by rw [List.length_drop,List.length_take];omega
 rcases k with ⟨⟨base',rfl⟩,rfl⟩ | ⟨b,off,cap',rfl,hc,hr⟩
 ·cases hv
  have:m=0:=by simpa using h2
  subst this
  have:l=0:=by omega
  subst this
  exact .inl ⟨⟨base,by simp⟩,by simp⟩
 ·cases hv
  refine .inr ⟨b,if cap=l then off else off+l * r.sz,cap - l,?_,?_,?_⟩
  ·rw [hlen]
   split
   ·rfl
   ·simp [Addr.add_mid]
  ·rw [hlen];omega
  ·intro i x hx
   rw [List.getElem?_drop,List.getElem?_take] at hx
   split at hx
   ·rename_i hlt
    have:=hr _ _ hx
    rw [if_neg (by omega)]
    rwa [show off+l * r.sz+i * r.sz=off+(l+i) * r.sz by rw [Nat.add_mul,Nat.add_assoc]]
   ·cases hx
theorem ok_slice {T E:TypeId} {r:Rep α} {x:Operand} {lo hi:Option Operand} {xs ys:List α} {l m:Int} (hq:QY xs l m=some ys) (t:jT P E r) (hT:P.underlying T=some (.slice E)) (ho:o.op = .slice T x lo hi none)
  (hx:bW N x (fV (Rep.slice r) xs)) (hl:IQ N 0 lo l) (hm:IQ N xs.length hi m):dR P o N [] (fV (Rep.slice r) ys) [] :=
 dR.rE fun h a w _ n=>by
  obtain ⟨h0,h1,h2,rfl⟩:=Pq hq
  have k:=mP.1 (hx h a n)
  obtain ⟨base,cap,hv,hc⟩:=k.le
  have hrun:=Ic (w:=w) (base:=base) hT t n hl hm h0 h1 h2 hc
  refine ⟨_,by simp only [execOp,ho,hv,Option.map_none,Sem.run_bind,hrun,Result.andThen_ok,Sem.run_pure],mP.2 (k.cut hv (by omega) (by omega))⟩
end Go.KB
namespace Go.KB
variable {P:Program} {o:Oper} {N:List (Nat×aZ)} {f:aZ} {α β:Type}
theorem Hw {T:TypeId} {k:IntKind} {x i:Operand} {s:Str} {n:Int} {c:UInt8} (hq:idx s n=some c) (hT:P.underlying T=some .string) (ho:o.op = .index T x i) (hx:bW N x (fV Rep.str s)) (hi:bW N i (fV (Rep.int k) n)) :
  dR P o N [] (fV (Rep.int .u8) (c.toNat:Int)) [] :=
 dR.rE fun h a w _ q=>by
  obtain ⟨h0,h1,h2⟩:=uy hq
  refine ⟨.int .u8 (c.toNat:Int),?_,jW.2 rfl⟩
  have hc:(⟨s.toArray⟩:ByteArray)[n.toNat]? = some c:=by
   have:n.toNat<(⟨s.toArray⟩:ByteArray).size:=h1
   rw [getElem?_pos (⟨s.toArray⟩:ByteArray) n.toNat this]
   have e:s[n.toNat]? = some s[n.toNat]:=List.getElem?_eq_getElem h1
   rw [e] at h2;cases h2
   rfl
  simp [execOp,ho,zG.1 (hx h a q),jW.1 (hi h a q),Instr.index,asIntOf,run_underlying hT,h0,hc]
def Ae (op:BinOp) (a b:Str):Bool :=
 match op with
 | .eql=>a == b | .neq=>!(a == b) | .lss=>Op.bytesLess a b | .leq=>(Op.bytesLess a b||a == b) | .gtr=>!(Op.bytesLess a b||a == b) | _=>!(Op.bytesLess a b)
theorem rX {op:BinOp} {T T':TypeId} {x y:Operand} {s t:Str} {b:Bool} (hop:op = .eql∨op = .neq∨op = .lss∨op = .leq∨op = .gtr∨op = .geq) (hb:Ae op s t=b) (ho:o.op = .binOp op T x y T')
  (hx:bW N x (fV Rep.str s)) (hy:bW N y (fV Rep.str t)):dR P o N [] (fV Rep.bool b) [] :=
 dR.rE fun h a w _ q=>by
  subst hb
  refine ⟨.bool (Ae op s t),?_,lu.2 rfl⟩
  rcases hop with rfl | rfl | rfl | rfl | rfl | rfl <;>
   simp [execOp,ho,zG.1 (hx h a q),zG.1 (hy h a q),binOp,Op.stringOp,eqGuard,Ae]
end Go.KB
namespace Go.KB
variable {ρ:Option Nat} {P:Program} {κ:Type} {B:Base} {h0:H} {Γ:Ctx} {Λ:Own} {F:κ→Option iH} {n:Nat} {a:Act} {w:World} {Q:Exit→Act→World→Prop}
theorem wp_mono {c:Code} {Q':Exit→Act→World→Prop} (h:c.pY ρ P Q a w) (hq:∀ e a w,Q e a w→Q' e a w):c.pY ρ P Q' a w:=wpIn_mono h hq
theorem wp_skip (h:Q .normal a w):Code.skip.pY ρ P Q a w:=wpIn_skip h
theorem wp_exit {id:Nat} (h:Q (.exit id) a w):(Code.exit id).pY ρ P Q a w:=wpIn_exit h
theorem wp_ret (h:Q .ret a w):Code.ret.pY ρ P Q a w:=wpIn_ret h
theorem wp_seq {x y:Code} (h:x.pY ρ P (Exit.then (y.pY ρ P Q) Q) a w):(Code.seq x y).pY ρ P Q a w:=wpIn_seq h
theorem wp_block {id:Nat} {c:Code} (h:c.pY ρ P (Exit.inBlock id Q) a w):(Code.block id c).pY ρ P Q a w:=wpIn_block h
theorem wp_cond_split {c:Operand} {x y:Code} {t:Bool} (hc:a.eval c = .bool t) (ht:t=true→x.pY ρ P Q a w) (hf:t=false→y.pY ρ P Q a w):(Code.cond c x y).pY ρ P Q a w:=wpIn_cond_split hc ht hf
def GH (P:Program) (fn:Func) (R:Ending→World→Prop):Exit→Act→World→Prop
 | .normal,a,w | .ret,a,w=>(a.defers=[]∧∃ v,(results fn a.tmps).run P w = .ok v w∧R (.returned v) w) ∨
   ∃ D w',a.defers=[{ target:=.collected D,args:=#[] }]∧(Instr.takeDeferred D).run P w = .ok [] w'∧∃ v,(results fn a.tmps).run P w' = .ok v w'∧R (.returned v) w'
 | _,_,_=>False
theorem GH.mono {fn:Func} {R R':Ending→World→Prop} (hR:∀ e w,R e w→R' e w) {e:Exit} {a:Act} {w:World} (h:GH P fn R e a w):GH P fn R' e a w:=by
  cases e <;> first
    | exact h.elim
    | (rcases h with ⟨h1,v,h2,h3⟩ | ⟨D,w',h1,h2,v,h3,h4⟩
       · exact .inl ⟨h1,v,h2,hR _ _ h3⟩
       · exact .inr ⟨D,w',h1,h2,v,h3,hR _ _ h4⟩)
theorem CZ {f:FuncId} {fn:Func} {c:Code} {args:Array Value} {w:World} {R R':Ending→World→Prop} {X:Prop} (hX:X) (hf:P.funcs[f]? = some fn) (hb:fn.body=some c)
    (h:c.pY none P (fun e a w=>X→GH P fn R' e a w) { tmps:=args ++ Array.replicate (fn.ntmps - args.size) undef,defers:=[] } w) (hR:∀ e w,R' e w→R e w):Calls P f args w R:=by
  refine H9.1 (callsIn_of_wp_marks (F:=KT none) (n:=0) hf hb trivial (wpIn_mono h ?_))
  intro e a w hq
  have hq:=(hq hX).mono hR
  cases e <;> first
    | exact hq.elim
    | (rcases hq with ⟨h1,v,h2,h3⟩ | ⟨D,w',h1,h2,v,h3,h4⟩
       · simp only [bodyPostM];rw [h1];exact ⟨v,h2,h3⟩
       · simp only [bodyPostM];rw [h1];exact ⟨by simp,.inl ⟨D,w',rfl,h2,v,h3,h4⟩⟩)

theorem At.less {Γ':Ctx} {Λ':Own} (x:At B h0 Γ Λ F n a w) (hG:∀ s,Γ' s=Γ s∨Γ' s=aZ.rf) (hO:∀ s,Λ' s=Λ s∨Λ' s=none):At B h0 Γ' Λ' F n a w:=by
 obtain ⟨h,L,hle,hst,rV,nN,r⟩:=x
 refine ⟨h,L,hle,hst,?_,?_,r⟩
 ·intro s q hq
  rcases hO s with h1 | h1 <;> rw [h1] at hq
  ·exact rV s q hq
  ·cases hq
 ·intro s
  rcases hG s with h1 | h1 <;> rw [h1]
  ·exact nN s
  ·exact trivial
def DF (Γ:Ctx):List Nat→List (Nat×aZ)
 | []=>[]
 | s :: r=>(s,Γ s) :: DF Γ r
def BN (Λ:Own):List Nat→List (Nat×dU)
 | []=>[]
 | s :: r=>match Λ s with | some e=>(s,e) :: BN Λ r | none=>BN Λ r
theorem VR (Γ:Ctx) (l:List Nat) (s:Nat):Ey (DF Γ l) s=Γ s∨Ey (DF Γ l) s=aZ.rf:=by
 induction l with
 | nil=>exact .inr rfl
 | cons x r ih =>
  simp only [Ey,DF,Oq] at ih ⊢
  cases hb:Nat.beq x s with
  | true=>rw [iP] at hb;subst hb;exact .inl rfl
  | false=>exact ih
theorem VS (Λ:Own) (l:List Nat) (s:Nat):BA (BN Λ l) s=Λ s∨BA (BN Λ l) s=none:=by
 induction l with
 | nil=>exact .inr rfl
 | cons x r ih =>
  simp only [BA,BN] at ih ⊢
  cases hl:Λ x with
  | none=>exact ih
  | some e =>
   simp only [Sv]
   cases hb:Nat.beq x s with
   | true=>rw [iP] at hb;subst hb;exact .inl hl.symm
   | false=>exact ih
theorem At.pick (x:At B h0 Γ Λ F n a w) (l m:List Nat):At B h0 (Ey (DF Γ l)) (BA (BN Λ m)) F n a w:=x.less (VR Γ l) (VS Λ m)
theorem At.fact (x:At B h0 Γ Λ F n a w) (s:Nat):∃ h,mQ h0 h∧(Γ s).at h a s:=let ⟨h,_,hl,_,_,hs,_⟩:=x;⟨h,hl,hs s⟩
theorem At.bool {b:Bool} (x:At B h0 Γ Λ F n a w) (s:Nat) (hs:Γ s=fV Rep.bool b):a.eval (.tmp s) = .bool b:=by
 obtain ⟨h,_,hf⟩:=x.fact s
 rw [hs] at hf
 exact lu.1 hf
theorem bM {s:Nat} {b:Bool} {x y:Code} (hAt:At B h0 Γ Λ F n a w) (hs:Γ s=fV Rep.bool b) (ht:b=true→x.pY ρ P Q a w) (hf:b=false→y.pY ρ P Q a w):(Code.cond (.tmp s) x y).pY ρ P Q a w :=
 wp_cond_split (hAt.bool s hs) ht hf
def bZ {S O:Type} (f:S→Option (S ⊕ O)):Nat→S→Option O
 | 0,_=>none
 | n+1,s=>match f s with
  | none=>none
  | some (.inl s')=>bZ f n s'
  | some (.inr o)=>some o
theorem dO {S O:Type} {f:S→Option (S ⊕ O)} {body:Code} (Inv:S→Act→World→Prop) (Post:O→Exit→Act→World→Prop)
  (hb:∀ s r a w,f s=some r→Inv s a w→body.pY ρ P (fun e a' w'=>match r with | .inl s'=>e = .normal∧Inv s' a' w' | .inr o=>e ≠ .normal∧Post o e a' w') a w) :
  ∀ (N:Nat) (s:S) (o:O) (a:Act) (w:World),bZ f N s=some o→Inv s a w→(Code.loop body).pY ρ P (Post o) a w:=by
 intro N s o a w hl hI b k cs hro hbf hrm
 have key:∀ N s a w,bZ f N s=some o→Inv s a w →
   ∃ e a' w',Post o e a' w'∧ArrivesIn (Machine.fenced P (KT ρ)) P (lone (b.atR a (.code body :: .inLoop body :: k)) cs w) b k cs e a' w':=by
  intro N
  induction N with
  | zero=>intro s a w h;cases h
  | succ N ih =>
   intro s a w h hI
   simp only [bZ] at h
   cases hr:f s with
   | none=>rw [hr] at h;cases h
   | some r =>
    rw [hr] at h
    obtain ⟨e,a₁,w₁,hq,harr⟩:=hb s r a w hr hI b (.inLoop body :: k) cs hro hbf hrm
    cases r with
    | inl s' =>
     obtain ⟨rfl,hI'⟩:=hq
     obtain ⟨e₂,a₂,w₂,hq₂,harr₂⟩:=ih s' a₁ w₁ h hI'
     exact ⟨e₂,a₂,w₂,hq₂,.of_steps (StepsIn.trans harr (.one (fenced_calm hbf hrm rfl) stepR_inLoop)) harr₂⟩
    | inr o' =>
     cases h
     obtain ⟨hne,hp⟩:=hq
     exact ⟨e,a₁,w₁,hp,.pass (x:=.inLoop body) rfl (fun _ _=>.inl hne) harr⟩
 obtain ⟨e,a',w',hq,harr⟩:=key N s a w hl hI
 exact ⟨e,a',w',hq,.of_steps (.one (fenced_calm hbf hrm rfl) stepR_loop) harr⟩
theorem aV {X Y:Type} {m:Option X} {k:X→Option Y} {r:Y} (h:m.bind k=some r):∃ x,m=some x∧k x=some r:=by
 cases m with
 | none=>cases h
 | some x=>exact ⟨x,rfl,h⟩
theorem cZ {X:Type} {b:Bool} {x y r:X} (hb:b=true) (h:(bif b then x else y)=r):x=r:=by subst hb;exact h
theorem dA {X:Type} {b:Bool} {x y r:X} (hb:b=false) (h:(bif b then x else y)=r):y=r:=by subst hb;exact h
def oL:List aZ→Bool
 | []=>true
 | f :: r=>f.dep.isNone&&oL r
theorem mO:∀ {l:List aZ},oL l=true→∀ g ∈ l,g.dep=none:=by
 intro l
 induction l with
 | nil=>intro _ g h;cases h
 | cons f r ih =>
  intro h g hg
  simp only [oL,Bool.and_eq_true] at h
  rcases List.mem_cons.1 hg with rfl | hg
  ·cases hx:g.dep with
   | none=>rfl
   | some d=>rw [hx] at h;cases h.1
  ·exact ih h.2 g hg
def FnOk (P:Program) (f:FuncId) (args:List aZ) (post:aZ):Prop :=
 ∀ (κ:Type) (B:Base) (L:κ→Option iH) (h:H) (w:World) (vs:List Value),St B h L w→args.length=vs.length→(∀ (i:Nat) (g:aZ) (v:Value),args[i]? = some g→vs[i]? = some v→g.p h undef v) →
  Calls P f vs.toArray w (fun e w'=>∃ v h',e = .returned v∧mQ h h'∧St B h' L w'∧post.p h' undef v)
def NJ (P:Program) (fn:Func) {κ:Type} (B:Base) (h0:H) (F:κ→Option iH) (post:aZ):Exit→Act→World→Prop :=
 fun e a w=>B.df=[]→GH P fn (fun e w'=>∃ v h',e = .returned v∧mQ h0 h'∧St B h' F w'∧post.p h' undef v) e a w
def GI:Nat→List aZ→List (Nat×aZ)
 | _,[]=>[]
 | i,f :: r=>(i,f) :: GI (i+1) r
theorem HY:∀ (l:List aZ) (i s:Nat),Oq (GI i l) s=aZ.rf∨∃ j f,l[j]? = some f∧s=i+j∧Oq (GI i l) s=f:=by
 intro l
 induction l with
 | nil=>intro i s;exact .inl rfl
 | cons f r ih =>
  intro i s
  simp only [GI,Oq]
  cases hb:Nat.beq i s with
  | true=>rw [iP] at hb;subst hb;exact .inr ⟨0,f,rfl,rfl,rfl⟩
  | false =>
   rcases ih (i+1) s with h1 | ⟨j,g,h1,h2,h3⟩
   ·exact .inl h1
   ·exact .inr ⟨j+1,g,h1,by omega,h3⟩
theorem St.SI {h:H} (s:St B h F w):St B h (Sum.elim (fun _:Nat=>(none:Option iH)) F) w:=by
 refine ⟨s.low,s.base,fun x=>s.ext x,?_,?_⟩
 ·intro k e hk
  cases k with
  | inl k=>cases hk
  | inr k=>exact s.own hk
 ·intro k k' e e' hk hk' hne
  cases k with
  | inl k=>cases hk
  | inr k=>cases k' with
   | inl k'=>cases hk'
   | inr k'=>exact s.uf hk hk' (fun e=>hne (by rw [e]))
theorem St.right {h:H} {L:Nat→Option iH} (s:St B h (Sum.elim L F) w):St B h F w :=
 s.AY Sum.inr (fun _ _ x=>x) (fun _ _ _ _ _ _ n e=>n (Sum.inr.inj e))
theorem dn {f:FuncId} {fn:Func} {c:Code} {args:List aZ} {post:aZ} (hf:P.funcs[f]? = some fn) (hb:fn.body=some c) (hn:fn.ntmps=n) (tu:(Nat.ble args.length n&&oL args)=true)
  (hwp:∀ (κ:Type) (B:Base) (h0:H) (F:κ→Option iH) (a:Act) (w:World),At B h0 (Ey (GI 0 args)) (BA []) F n a w→c.pY none P (NJ P fn B h0 F post) a w):FnOk P f args post:=by
 intro κ B L h w vs hst hl hargs
 rw [Bool.and_eq_true,Nat.ble_eq] at tu
 obtain ⟨hlen,hdp⟩:=tu
 have Ar:=mO hdp
 refine CZ rfl hf hb (hwp _ B.e h L _ w ⟨h,fun _=>none,mQ.refl h,(St.SI hst).toE,fun s q hq=>(by cases hq),?_,?_,rfl⟩) (fun _ _ ⟨v,h',he,hl,hs,hp⟩=>⟨v,h',he,hl,hs.ofE,hp⟩)
 ·intro s
  rcases HY args 0 s with h1 | ⟨j,g,h1,h2,h3⟩
  ·show (Oq (GI 0 args) s).at _ _ _;rw [h1];exact trivial
  ·show (Oq (GI 0 args) s).at _ _ _;rw [h3]
   have hj:=(List.getElem?_eq_some_iff.1 h1).1
   have hv:vs[j]? = some vs[j]:=List.getElem?_eq_getElem (by omega)
   have:=hargs j g _ h1 hv
   unfold aZ.at aZ.dv
   rw [Ar g (List.mem_of_getElem? h1)]
   have he:Act.gt { tmps:=vs.toArray ++ Array.replicate (fn.ntmps - vs.toArray.size) undef,defers:=[] } s=vs[j]:=by
    rw [h2,Nat.zero_add]
    simp only [Act.gt,Array.getD_eq_getD_getElem?]
    rw [Array.getElem?_append_left (by simp;omega)]
    simp [hv]
   rw [he];exact this
 ·simp;omega
def Xp:aZ:=⟨none,fun _ _ v=>v = .tuple #[],fun _ x=>x⟩
def Fv (f g:aZ):aZ:=⟨none,fun h _ v=>∃ x y,v = .tuple #[x,y]∧f.p h undef x∧g.p h undef y,fun hl ⟨x,y,e,a,b⟩=>⟨x,y,e,f.mono hl a,g.mono hl b⟩⟩
section
variable {o:Oper} {N:List (Nat×aZ)} {x:Operand} {f g i:aZ}
theorem jS (hd:f.dep=none) (ho:o.op = .extract x 0) (hx:bW N x (Fv f g)):dR P o N [] f [] :=
 dR.rE fun h a w _ q=>by
  obtain ⟨u,v,e,p1,_⟩:=hx h a q
  exact ⟨u,by simp [execOp,ho,e,Instr.extract],by unfold aZ.dv;rw [hd];exact p1⟩
theorem jG (hd:g.dep=none) (ho:o.op = .extract x 1) (hx:bW N x (Fv f g)):dR P o N [] g [] :=
 dR.rE fun h a w _ q=>by
  obtain ⟨u,v,e,_,p2⟩:=hx h a q
  exact ⟨v,by simp [execOp,ho,e,Instr.extract],by unfold aZ.dv;rw [hd];exact p2⟩
end
def resV (tmps:Array Value):ResultVar→Sem Value
 | .tmp t=>pure (tmps.getD t undef)
 | .cell a t=>do loadVar t (← asAddr (tmps.getD a undef))
def Ld (P:Program) (Γ:Ctx) (Λ:Own) (rv:ResultVar) (g:aZ):Prop :=
 ∀ (κ:Type) (B:Base) (F:κ→Option iH) (h:H) (a:Act) (w:World),∀ L,St B h (Sum.elim L F) w→JK Λ L a→Sat Γ h a→∃ v,(resV a.tmps rv).run P w = .ok v w∧g.p h undef v
theorem bn {s:Nat} {g:aZ} (hd:g.dep=none) (hs:Γ s=g):Ld P Γ Λ (.tmp s) g:=by
 intro κ B F h a w L _ _ nN
 have hf:=nN s
 rw [hs] at hf
 unfold aZ.at aZ.dv at hf
 rw [hd] at hf
 exact ⟨a.gt s,rfl,hf⟩
theorem kL {α:Type} {r:Rep α} {x:α} {T:TypeId} {s:Nat} (t:jT P T r) (hs:Λ s=some (bI T r x)):Ld P Γ Λ (.cell s T) (fV r x):=by
 intro κ B F h a w L hst rV nN
 obtain ⟨e,hL,b,hv,rfl⟩:=rV s _ hs
 obtain ⟨cs,hb,hrel⟩:=FU hst hL
 obtain ⟨c,hc,hrun⟩:=xH t (Lens.refl r) hb hrel
 refine ⟨pack r.agg c,?_,c,hc,rfl⟩
 have hv':a.tmps.getD s undef = .pointer (some ⟨b,0,none⟩):=hv
 have hrun':(loadVar T ⟨b,0,none⟩).run P w = .ok (pack r.agg c) w:=by simpa [Instr.loadAt,Instr.sureAddr] using hrun
 simp only [resV,hv',asAddr,Sem.run_bind,Sem.run_pure,Result.andThen_ok,hrun']
theorem yt (fn:Func) (tmps:Array Value):results fn tmps=(do let vs ← fn.results.mapM (resV tmps);pure (if h:vs.size=1 then vs[0] else .tuple vs)):=by
 unfold results
 congr 2
theorem iQ {fn:Func} {rv:ResultVar} {g:aZ} (hr:fn.results = #[rv]) (h1:Ld P Γ Λ rv g) (hAt:At B h0 Γ Λ F n a w):NJ P fn B h0 F g .ret a w:=by
 obtain ⟨h,L,hl,hst,rV,nN,_,hdf⟩:=hAt
 obtain ⟨v,hv,hp⟩:=h1 _ B F h a w L hst rV nN
 refine fun hB=>.inl ⟨hdf.trans hB,v,?_,v,h,rfl,hl,hst.right,hp⟩
 rw [yt];simp [hr,hv]
theorem Hl {fn:Func} {rv rv':ResultVar} {g g':aZ} (hr:fn.results = #[rv,rv']) (h1:Ld P Γ Λ rv g) (h2:Ld P Γ Λ rv' g') (hAt:At B h0 Γ Λ F n a w):NJ P fn B h0 F (Fv g g') .ret a w:=by
 obtain ⟨h,L,hl,hst,rV,nN,_,hdf⟩:=hAt
 obtain ⟨v,hv,hp⟩:=h1 _ B F h a w L hst rV nN
 obtain ⟨v',hv',hp'⟩:=h2 _ B F h a w L hst rV nN
 refine fun hB=>.inl ⟨hdf.trans hB,.tuple #[v,v'],?_,_,h,rfl,hl,hst.right,v,v',rfl,hp,hp'⟩
 rw [yt];simp [hr,hv,hv']
def qO (fn:Func):Bool:=fn.body.isSome && !(fn.name == "runtime.NumGoroutine")
def uT (N:List (Nat×aZ)):List aZ→List Operand→Prop
 | [],[]=>True
 | g :: gs,x :: xs=>bW N x g∧uT N gs xs
 | _,_=>False
theorem uT.spec {N:List (Nat×aZ)}:∀ {gs:List aZ} {xs:List Operand},uT N gs xs→gs.length=xs.length∧∀ (i:Nat) (g:aZ) (x:Operand),gs[i]? = some g→xs[i]? = some x→bW N x g:=by
 intro gs
 induction gs with
 | nil=>intro xs h;cases xs with
  | nil=>exact ⟨rfl,fun i g x h=>by simp at h⟩
  | cons _ _=>exact h.elim
 | cons g gs ih =>
  intro xs h
  cases xs with
  | nil=>exact h.elim
  | cons x xs =>
   obtain ⟨h1,h2⟩:=h
   obtain ⟨h3,h4⟩:=ih h2
   refine ⟨by simp [h3],fun i g' x' hg hx=>?_⟩
   cases i with
   | zero=>cases hg;cases hx;exact h1
   | succ i=>exact h4 i g' x' (by simpa using hg) (by simpa using hx)
theorem Ci {f:FuncId} {fn:Func} {args:List aZ} {post:aZ} {xs:Array Operand} {ts:Array TypeId} {N:List (Nat×aZ)} {o:Oper} (hc:FnOk P f args post) (hf:P.funcs[f]? = some fn) (hb:qO fn=true) (hd:oL (post :: args)=true)
  (ho:o.op = .call { callee:=.value (.func f),args:=xs,argTypes:=ts }) (hargs:uT N args xs.toList):dR P o N [] post []:=by
 intro κ B F L h a w hst hn _ _ next Q hnext _
 simp only [qO,Bool.and_eq_true,Bool.not_eq_true'] at hb
 have hbody:fn.body≠none:=by
  intro hx;rw [hx] at hb;cases hb.1
 have hname:fn.name ≠ "runtime.NumGoroutine":=by simpa using hb.2
 have hdp:=mO hd
 obtain ⟨hlen,hall⟩:=hargs.spec
 unfold Oper.pY
 have:(execOp a.eval o).run P w = .ok (.enter f (xs.toList.map a.eval).toArray) w:=by
  have e:(xs.toList.map a.eval).toArray=xs.map a.eval:=by apply Array.ext';simp
  rw [e]
  simp [execOp,ho,resolve,Act.eval,Deferred.ofValue,invoke,callFunc,hf,hname,hbody]
 rw [this,BU]
 refine (hc _ B (Sum.elim L F) h w (xs.toList.map a.eval) hst (by rw [List.length_map];exact hlen) ?_).mono ?_
 ·intro i g v hg hv
  rw [List.getElem?_map] at hv
  cases hx:xs.toList[i]? with
  | none=>rw [hx] at hv;cases hv
  | some x =>
   rw [hx] at hv;cases hv
   have:=hall i g x hg hx h a hn
   unfold aZ.dv at this
   rw [hdp g (List.mem_cons_of_mem _ (List.mem_of_getElem? hg))] at this
   exact this
 ·rintro e w' ⟨v,h',rfl,hl,hst',hp⟩
  refine hnext v h' w' L hl ?_ hst' mM
  unfold aZ.dv
  rw [hdp post List.mem_cons_self]
  exact hp
end Go.KB
namespace Go.KB
def zC (n:Nat):List Oper→Bool
 | []=>true
 | o :: os=>(match o.dst with | some d=>Nat.blt d n | none=>true)&&zC n os
theorem CX {n:Nat}:∀ {l:List Oper},zC n l=true→∀ o ∈ l,∀ d,o.dst=some d→d<n:=by
 intro l
 induction l with
 | nil=>intro _ o h;cases h
 | cons x r ih =>
  intro h o ho d hd
  simp only [zC,Bool.and_eq_true] at h
  rcases List.mem_cons.1 ho with rfl | ho
  ·have:=h.1;rw [hd] at this;simpa [Nat.blt_eq] using this
  ·exact ih h.2 o ho d hd
variable {ρ:Option Nat} {P:Program} {κ:Type} {B:Base} {h0:H} {Γ:Ctx} {Λ:Own} {F:κ→Option iH} {n:Nat} {a:Act} {w:World} {Q:Exit→Act→World→Prop}
theorem reg {id:Nat} {ops:Array Oper} (sp:List OS) (l m:List Nat) (hAt:At B h0 Γ Λ F n a w) (Aq:I9 P sp ops.toList Γ Λ ops.toList sp)
  (tu:(chk Γ Λ false ops.toList sp&&zC n ops.toList)=true)
  (hnext:∀ a w,At B h0 (Ey (DF (Ea Γ ops.toList sp) l)) (BA (BN (zD Λ ops.toList sp) m)) F n a w→Q .normal a w):(Code.region id ops false).pY ρ P Q a w:=by
 rw [Bool.and_eq_true] at tu
 exact Zr sp hAt Aq tu.1 (CX tu.2) (fun a w x=>hnext a w (x.pick l m))
theorem regd {id:Nat} {ops:Array Oper} (sp:List OS) (rt rg l m:List Nat) (hAt:At B h0 Γ Λ F n a w) (Aq:I9 P sp ops.toList Γ Λ ops.toList sp)
  (tu:(chk Γ Λ true ops.toList sp&&inRange ops.size ops.toList&&xJ .text rt 0 ops.toList&&xJ .gc rg 0 ops.toList&&xJ .any rt 0 ops.toList&&zC n ops.toList)=true)
  (hnext:∀ a w,At B h0 (Ey (DF (Ea Γ ops.toList sp) l)) (BA (BN (zD Λ ops.toList sp) m)) F n a w→Q .normal a w):(Code.region id ops true).pY ρ P Q a w:=by
 rw [Bool.and_eq_true] at tu
 exact XJ sp rt rg hAt Aq tu.1 (CX tu.2) (fun a w x=>hnext a w (x.pick l m))
theorem rgo {id:Nat} {ops:Array Oper} (sp:List OS) (l m:List Nat) (hAt:At B h0 Γ Λ F n a w) (Aq:I9 P sp ops.toList Γ Λ ops.toList sp)
  (hnext:∀ a w,At B h0 (Ey (DF (Ea Γ ops.toList sp) l)) (BA (BN (zD Λ ops.toList sp) m)) F n a w→Q .normal a w)
  (tu:(chk Γ Λ false ops.toList sp&&zC n ops.toList)=true:=by kernel_rfl):(Code.region id ops false).pY ρ P Q a w:=reg sp l m hAt Aq tu hnext
theorem rg {id:Nat} {ops:Array Oper} (sp:List OS) (Γ':List (Nat×aZ)) (Λ':List (Nat×(dU))) (hAt:At B h0 Γ Λ F n a w) (Aq:I9 P sp ops.toList Γ Λ ops.toList sp)
  (hnext:∀ a w,At B h0 (Ey Γ') (BA Λ') F n a w→Q .normal a w)
  (tu:(chk Γ Λ false ops.toList sp&&zC n ops.toList)=true:=by kernel_rfl) (hg:DF (Ea Γ ops.toList sp) (Γ'.map (·.1))=Γ':=by rfl) (hl:BN (zD Λ ops.toList sp) (Λ'.map (·.1))=Λ':=by rfl):(Code.region id ops false).pY ρ P Q a w :=
 reg sp _ _ hAt Aq tu (fun a w x=>hnext a w (by rw [hg,hl] at x;exact x))
theorem rd {id:Nat} {ops:Array Oper} (sp:List OS) (rt rg:List Nat) (Γ':List (Nat×aZ)) (Λ':List (Nat×(dU))) (hAt:At B h0 Γ Λ F n a w) (Aq:I9 P sp ops.toList Γ Λ ops.toList sp)
  (hnext:∀ a w,At B h0 (Ey Γ') (BA Λ') F n a w→Q .normal a w)
  (tu:(chk Γ Λ true ops.toList sp&&inRange ops.size ops.toList&&xJ .text rt 0 ops.toList&&xJ .gc rg 0 ops.toList&&xJ .any rt 0 ops.toList&&zC n ops.toList)=true:=by kernel_rfl) (hg:DF (Ea Γ ops.toList sp) (Γ'.map (·.1))=Γ':=by rfl) (hl:BN (zD Λ ops.toList sp) (Λ'.map (·.1))=Λ':=by rfl):(Code.region id ops true).pY ρ P Q a w :=
 regd sp rt rg _ _ hAt Aq tu (fun a w x=>hnext a w (by rw [hg,hl] at x;exact x))
def QZ (P:Program) (f:FuncId):Bool:=match P.funcs[f]? with | some fn=>qO fn | none=>false
theorem qA {f:FuncId} {args:List aZ} {post:aZ} {xs:Array Operand} {ts:Array TypeId} {N:List (Nat×aZ)} {o:Oper} (hc:FnOk P f args post)
  (ho:o.op = .call { callee:=.value (.func f),args:=xs,argTypes:=ts }) (hargs:uT N args xs.toList) (hb:QZ P f=true:=by kernel_rfl) (hd:oL (post :: args)=true:=by kernel_rfl):dR P o N [] post []:=by
 unfold QZ at hb
 cases hf:P.funcs[f]? with
 | none=>rw [hf] at hb;cases hb
 | some fn=>rw [hf] at hb;exact Ci hc hf hb hd ho hargs
theorem uT.id:∀ {M:List (Nat×aZ)} {N:List (Nat×aZ)},(∀ h a,BR N h a→BR M h a)→uT N (M.map (·.2)) (M.map fun q=>.tmp q.1):=by
 intro M
 induction M with
 | nil=>intro N _;trivial
 | cons q M ih=>intro N hM;exact ⟨fun h a n=>(hM h a n).1,ih fun h a n=>(hM h a n).2⟩
theorem gV {f:FuncId} {args:List aZ} {post:aZ} {xs:Array Operand} {ts:Array TypeId} {N:List (Nat×aZ)} {o:Oper} (hc:FnOk P f args post)
  (ho:o.op = .call { callee:=.value (.func f),args:=xs,argTypes:=ts }) (ha:args=N.map (·.2):=by rfl) (hx:xs.toList=N.map (fun q=>.tmp q.1):=by rfl) (hb:QZ P f=true:=by kernel_rfl) (hd:oL (post :: args)=true:=by kernel_rfl):dR P o N [] post [] :=
 qA hc ho (by rw [hx,ha];exact uT.id fun _ _ n=>n) hb hd
abbrev AG {κ:Type} (B:Base) (h0:H) (g:List (Nat×aZ)) (l:List (Nat×(dU))) (F:κ→Option iH) (n:Nat) (a:Act) (w:World):Prop:=At B h0 (Ey g) (BA l) F n a w
abbrev sp (f:aZ) (r:List (Nat×Option Nat)):OS:=⟨f,[],r,[]⟩
abbrev si (v:Int) (r:List (Nat×Option Nat)):OS:=⟨fV (Rep.int .i64) v,[],r,[]⟩
abbrev sb (v:Bool) (r:List (Nat×Option Nat)):OS:=⟨fV Rep.bool v,[],r,[]⟩
abbrev sr {α:Type} (q:Rep α) (v:α) (r:List (Nat×Option Nat)):OS:=⟨bU q v,[],r,[]⟩
abbrev sv {α:Type} (q:Rep α) (v:α) (r:List (Nat×Option Nat)):OS:=⟨fV q v,[],r,[]⟩
abbrev sk (f:aZ) (k:List (Nat×Option Nat)):OS:=⟨f,[],[],k⟩
theorem At.pk {κ:Type} {B:Base} {h0:H} {Γ:Ctx} {Λ:Own} {F:κ→Option iH} {n:Nat} {a:Act} {w:World} (x:At B h0 Γ Λ F n a w) (Γ':List (Nat×aZ)) (Λ':List (Nat×dU)) (hg:DF Γ (Γ'.map (·.1))=Γ':=by rfl) (hl:BN Λ (Λ'.map (·.1))=Λ':=by rfl):At B h0 (Ey Γ') (BA Λ') F n a w:=by
 have:=x.pick (Γ'.map (·.1)) (Λ'.map (·.1))
 rw [hg,hl] at this
 exact this
theorem aI:True:=trivial
abbrev cu:Rep Str:=Rep.str
abbrev aW {f:aZ} (a b:Nat):OS:=⟨f,[],[(a,some b)],[]⟩
abbrev bG {f:aZ} (a:Nat):OS:=⟨f,[],[(a,none)],[]⟩
abbrev uU {f:aZ} (a:Nat):OS:=⟨f,[],[],[(a,none)]⟩
abbrev sq {f:aZ} (r:List (Nat×Option Nat)):OS:=⟨f,[],r,[]⟩
abbrev sz {f:aZ} (k:List (Nat×Option Nat)):OS:=⟨f,[],[],k⟩
abbrev sy {f:aZ} (r k:List (Nat×Option Nat)):OS:=⟨f,[],r,k⟩
abbrev sa (n:Nat) (q:dU):OS:=⟨aZ.rf,[(n,some q)],[],[]⟩
abbrev sx (n:Nat) (q:dU) (r k:List (Nat×Option Nat)):OS:=⟨aZ.rf,[(n,some q)],r,k⟩
abbrev ids (n:Nat):List Nat:=List.range n
abbrev ss (n m:Nat):Nat×Option Nat:=(n,some m)
abbrev nn (n:Nat):Nat×Option Nat:=(n,none)
abbrev ft:aZ:=aZ.rf
abbrev fI (v:Int):aZ:=fV (Rep.int .i64) v
abbrev fB (v:Bool):aZ:=fV Rep.bool v
abbrev rI:Rep (List Int):=Rep.slice (Rep.int .i64)
abbrev wI:Int→Int:=IntKind.i64.wrap
end Go.KB
namespace Go.KB
section
variable {K:Act→World→Prop} {Q:Exit→Act→World→Prop} {a:Act} {w:World} {i j:Nat}
theorem iw (h:Q (.exit i) a w):Exit.then K Q (.exit i) a w:=h
theorem fQ (h:Q .normal a w):Exit.inBlock i Q .normal a w:=h
theorem dH (h:Q .ret a w):Exit.inBlock i Q .ret a w:=h
theorem iy (h:Q .normal a w):Exit.inBlock i Q (.exit i) a w:=by simp [Exit.inBlock];exact h
theorem jO:Exit.exit i ≠ .normal:=fun h=>by cases h
theorem iW:Exit.ret ≠ .normal:=fun h=>by cases h
end
def jX (v:Value):aZ:=⟨none,fun _ _ u=>u=v,fun _ x=>x⟩
def IJ (d:Option Nat) (s:Nat):Bool:=match d with | some d=>!(Nat.beq d s) | none=>true
end Go.KB
namespace Go.KB
variable {P:Program} {o:Oper} {N:List (Nat×aZ)} {α β γ:Type}
def fF (P:Program) {ι:Type} (A:ι→List aZ) (R:ι→aZ):aZ :=
 ⟨none,fun h _ v=>∃ f fn cap,v = .func (.func f) #[] cap∧P.funcs[f]? = some fn∧qO fn=true∧∀ i (κ:Type) (B:Base) (L:κ→Option iH) (h':H) (w:World) (vs:List Value),mQ h h'→St B h' L w→(A i).length=vs.length →
   (∀ (j:Nat) (g:aZ) (v:Value),(A i)[j]? = some g→vs[j]? = some v→g.p h' undef v)→Calls P f (vs.toArray ++ cap) w (fun e w'=>∃ v h'',e = .returned v∧mQ h' h''∧St B h'' L w'∧(R i).p h'' undef v),
  fun hl ⟨f,fn,cap,e,hf,hb,k⟩=>⟨f,fn,cap,e,hf,hb,fun i κ B L h' w vs hl'=>k i κ B L h' w vs (hl.trans hl')⟩⟩
def Iz (P:Program) (r:Rep α) (q:Rep β) (φ:α→Option β):aZ:=fF P (ι:={p:α×β // φ p.1=some p.2}) (fun p=>[fV r p.1.1]) (fun p=>fV q p.1.2)
def fF2 (P:Program) (r:Rep α) (s:Rep γ) (q:Rep β) (φ:α→γ→Option β):aZ:=fF P (ι:={p:α×γ×β // φ p.1 p.2.1=some p.2.2}) (fun p=>[fV r p.1.1,fV s p.1.2.1]) (fun p=>fV q p.1.2.2)
theorem Zt {ι:Type} {A:ι→List aZ} {R:ι→aZ} {C:List aZ} {f:FuncId} {fn:Func} {xs:Array Operand} (hc:∀ i,FnOk P f (A i ++ C) (R i)) (hf:P.funcs[f]? = some fn) (hb:qO fn=true) (hd:oL C=true)
    (ho:o.op = .makeFunc (.func f) #[] xs) (hargs:uT N C xs.toList):dR P o N [] (fF P A R) [] :=
  dR.rE fun h a w _ hn=>by
    have hdp:=mO hd
    obtain ⟨hlen,hall⟩:=hargs.spec
    refine ⟨.func (.func f) #[] (xs.map a.eval),by simp [execOp,ho,Instr.makeFunc],f,fn,_,rfl,hf,hb,fun i κ B L h' w' vs hl hst hvl hvs=>?_⟩
    have e:vs.toArray ++ xs.map a.eval=(vs ++ xs.toList.map a.eval).toArray:=by apply Array.ext';simp
    rw [e]
    refine hc i κ B L h' w' _ hst (by simp [hvl,hlen]) fun j g v hg hv=>?_
    by_cases hj:j<vs.length
    · rw [List.getElem?_append_left (by rw [hvl]; exact hj)] at hg
      rw [List.getElem?_append_left hj] at hv
      exact hvs j g v hg hv
    · rw [List.getElem?_append_right (by rw [hvl]; omega)] at hg
      rw [List.getElem?_append_right (by omega),List.getElem?_map] at hv
      rw [hvl] at hg
      cases hx:xs.toList[j - vs.length]? with
      | none=>rw [hx] at hv;cases hv
      | some x =>
        rw [hx] at hv;cases hv
        have:=hall _ g x hg hx h a hn
        unfold aZ.dv at this
        rw [hdp g (List.mem_of_getElem? hg)] at this
        exact g.mono hl this
theorem yC {r:Rep α} {q:Rep β} {φ:α→Option β} {C:List aZ} {f:FuncId} {fn:Func} {xs:Array Operand} (hc:∀ x y,φ x=some y→FnOk P f (fV r x :: C) (fV q y)) (hf:P.funcs[f]? = some fn) (hb:qO fn=true) (hd:oL C=true)
  (ho:o.op = .makeFunc (.func f) #[] xs) (hargs:uT N C xs.toList):dR P o N [] (Iz P r q φ) []:=Zt (fun i=>hc _ _ i.2) hf hb hd ho hargs
theorem VT {ι:Type} {A:ι→List aZ} {R:ι→aZ} (i:ι) {z:Operand} {xs:Array Operand} {ts:Array TypeId} (hd:oL (R i :: A i)=true) (ho:o.op = .call { callee:=.value z,args:=xs,argTypes:=ts })
  (hz:bW N z (fF P A R)) (hargs:uT N (A i) xs.toList):dR P o N [] (R i) []:=by
 intro κ B F L h a w hst hn _ _ next Q hnext _
 obtain ⟨f,fn,cap,hv,hf,hb,hk⟩:=hz h a hn
 simp only [qO,Bool.and_eq_true,Bool.not_eq_true'] at hb
 have hbody:fn.body≠none:=by
  intro hx;rw [hx] at hb;cases hb.1
 have hname:fn.name ≠ "runtime.NumGoroutine":=by simpa using hb.2
 have hdp:=mO hd
 obtain ⟨hlen,hall⟩:=hargs.spec
 unfold Oper.pY
 have:(execOp a.eval o).run P w = .ok (.enter f ((xs.toList.map a.eval).toArray ++ cap)) w:=by
  have e:(xs.toList.map a.eval).toArray=xs.map a.eval:=by apply Array.ext';simp
  rw [e]
  simp [execOp,ho,resolve,hv,Deferred.ofValue,invoke,callFunc,hf,hname,hbody]
 rw [this,BU]
 refine (hk i _ B (Sum.elim L F) h w (xs.toList.map a.eval) (mQ.refl h) hst (by rw [List.length_map];exact hlen) ?_).mono ?_
 ·intro j g v hg hv
  rw [List.getElem?_map] at hv
  cases hx:xs.toList[j]? with
  | none=>rw [hx] at hv;cases hv
  | some x =>
   rw [hx] at hv;cases hv
   have:=hall j g x hg hx h a hn
   unfold aZ.dv at this
   rw [hdp g (List.mem_cons_of_mem _ (List.mem_of_getElem? hg))] at this
   exact this
 ·rintro e w' ⟨v,h',rfl,hl,hst',hp⟩
  refine hnext v h' w' L hl ?_ hst' mM
  unfold aZ.dv
  rw [hdp _ List.mem_cons_self]
  exact hp
theorem xX {r:Rep α} {q:Rep β} {φ:α→Option β} {x:α} {y:β} (hq:φ x=some y) {z:Operand} {xs:Array Operand} {ts:Array TypeId} (ho:o.op = .call { callee:=.value z,args:=xs,argTypes:=ts })
  (hz:bW N z (Iz P r q φ)) (hargs:uT N [fV r x] xs.toList):dR P o N [] (fV q y) []:=VT (ι:={p:α×β // φ p.1=some p.2}) ⟨(x,y),hq⟩ rfl ho hz hargs
def fNil (xs:List α):aZ:=⟨none,fun _ _ v=>∃ b,v = .bool b∧(b=true→xs=[]),fun _ x=>x⟩
theorem D6 {T T' E:TypeId} {r:Rep α} {x:Operand} {xs:List α} (hT:P.underlying T=some (.slice E)) (ho:o.op = .binOp .eql T x (.const (.slice none 0 0)) T') (hx:bW N x (fV (Rep.slice r) xs)):dR P o N [] (fNil xs) [] :=
 dR.rE fun h a w _ n=>by
  have hg:∀ v,eqGuard .eql T x (.const (.slice none 0 0)) v (.slice none 0 0)=pure ():=by
   intro v;unfold eqGuard;cases v <;> rfl
  rcases mP.1 (hx h a n) with ⟨⟨base,hv⟩,rfl⟩ | ⟨b,off,cap,hv,_⟩
  ·cases base with
   | some a0=>exact ⟨.bool false,by simp only [execOp,ho,hv];show ((do eqGuard _ _ _ _ _ (.slice none 0 0);binOp .eql T (.slice _ _ _) (.slice none 0 0)) >>= fun v=>pure (Next.value v)).run P w=_;rw [hg];simp [Lib.run_eql_slice_some_nil w _ _ _ hT],false,rfl,fun h=>by cases h⟩
   | none=>exact ⟨.bool true,by simp only [execOp,ho,hv];show ((do eqGuard _ _ _ _ _ (.slice none 0 0);binOp .eql T (.slice none 0 0) (.slice none 0 0)) >>= fun v=>pure (Next.value v)).run P w=_;rw [hg];simp [Lib.run_eql_slice_nil_nil w _ _ hT],true,rfl,fun _=>rfl⟩
  ·exact ⟨.bool false,by simp only [execOp,ho,hv];show ((do eqGuard _ _ _ _ _ (.slice none 0 0);binOp .eql T (.slice _ _ _) (.slice none 0 0)) >>= fun v=>pure (Next.value v)).run P w=_;rw [hg];simp [Lib.run_eql_slice_some_nil w _ _ _ hT],false,rfl,fun h=>by cases h⟩
section
variable {κ:Type} {B:Base} {h0:H} {Γ:Ctx} {Λ:Own} {F:κ→Option iH} {n:Nat} {a:Act} {w:World} {Q:Exit→Act→World→Prop}
theorem D7 {ρ:Option Nat} {s:Nat} {xs:List α} {x y:Code} (hAt:At B h0 Γ Λ F n a w) (hs:Γ s=fNil xs) (ht:xs=[]→x.pY ρ P Q a w) (hf:y.pY ρ P Q a w):(Code.cond (.tmp s) x y).pY ρ P Q a w:=by
 obtain ⟨h,_,_,_,_,nN,_⟩:=hAt
 have:=nN s
 rw [hs] at this
 obtain ⟨b,hb,hx⟩:=this
 exact wp_cond_split (show Act.eval a (.tmp s)=_ from hb) (fun e=>ht (hx e)) (fun _=>hf)
end
def LW (P:Program) (f:FuncId) (args:List aZ) (q:dU) (post:aZ):Prop :=
 ∀ (κ:Type) (B:Base) (L:κ→Option iH) (h:H) (w:World) (vs:List Value),St B h L w→args.length=vs.length→(∀ (i:Nat) (g:aZ) (v:Value),args[i]? = some g→vs[i]? = some v→g.p h undef v) →
  Calls P f vs.toArray w (fun e w'=>∃ v h' x,e = .returned v∧mQ h h'∧St B h' (Sum.elim (fun _:Unit=>some x) L) w'∧post.p h' undef v∧q v x)
def Ql (q:dU):dU:=fun v e=>∃ x y,v = .tuple #[x,y]∧q x e
def Pv (P:Program) (fn:Func) {κ:Type} (B:Base) (h0:H) (F:κ→Option iH) (q:dU) (post:aZ):Exit→Act→World→Prop :=
 fun e a w=>B.df=[]→GH P fn (fun e w'=>∃ v h' x,e = .returned v∧mQ h0 h'∧St B h' (Sum.elim (fun _:Unit=>some x) F) w'∧post.p h' undef v∧q v x) e a w
theorem EC {n:Nat} {f:FuncId} {fn:Func} {c:Code} {args:List aZ} {q:dU} {post:aZ} (hf:P.funcs[f]? = some fn) (hb:fn.body=some c) (hn:fn.ntmps=n) (tu:(Nat.ble args.length n&&oL args)=true)
  (hwp:∀ (κ:Type) (B:Base) (h0:H) (F:κ→Option iH) (a:Act) (w:World),At B h0 (Ey (GI 0 args)) (BA []) F n a w→c.pY none P (Pv P fn B h0 F q post) a w):LW P f args q post:=by
 intro κ B L h w vs hst hl hargs
 rw [Bool.and_eq_true,Nat.ble_eq] at tu
 obtain ⟨hlen,hdp⟩:=tu
 have Ar:=mO hdp
 refine CZ rfl hf hb (hwp _ B.e h L _ w ⟨h,fun _=>none,mQ.refl h,(St.SI hst).toE,fun s q hq=>(by cases hq),?_,?_,rfl⟩) (fun _ _ ⟨v,h',x,he,hl,hs,hp⟩=>⟨v,h',x,he,hl,hs.ofE,hp⟩)
 ·intro s
  rcases HY args 0 s with h1 | ⟨j,g,h1,h2,h3⟩
  ·show (Oq (GI 0 args) s).at _ _ _;rw [h1];exact trivial
  ·show (Oq (GI 0 args) s).at _ _ _;rw [h3]
   have hj:=(List.getElem?_eq_some_iff.1 h1).1
   have hv:vs[j]? = some vs[j]:=List.getElem?_eq_getElem (by omega)
   have:=hargs j g _ h1 hv
   unfold aZ.at aZ.dv
   rw [Ar g (List.mem_of_getElem? h1)]
   have he:Act.gt { tmps:=vs.toArray ++ Array.replicate (fn.ntmps - vs.toArray.size) undef,defers:=[] } s=vs[j]:=by
    rw [h2,Nat.zero_add]
    simp only [Act.gt,Array.getD_eq_getD_getElem?]
    rw [Array.getElem?_append_left (by simp;omega)]
    simp [hv]
   rw [he];exact this
 ·simp;omega
section
variable {κ:Type} {B:Base} {h h0:H} {L:Nat→Option iH} {Γ:Ctx} {Λ:Own} {F:κ→Option iH} {n:Nat} {a:Act} {w:World} {q:dU}
theorem St.one (hst:St B h (Sum.elim L F) w) (s:Nat) {e:iH} (hL:L s=some e):St B h (Sum.elim (fun _:Unit=>some e) F) w:=by
 refine hst.AY (fun k=>match k with | .inl _=>.inl s | .inr k=>.inr k) ?_ ?_
 ·intro k e' hk
  cases k with
  | inl _=>exact hL.trans hk
  | inr k=>exact hk
 ·intro k k' e1 e2 h1 h2 hne
  cases k with
  | inl u=>cases k' with
   | inl u'=>exact absurd rfl hne
   | inr k'=>intro he;cases he
  | inr k=>cases k' with
   | inl u'=>intro he;cases he
   | inr k'=>intro he;exact hne (by rw [Sum.inr.inj he])
theorem II {fn:Func} {s:Nat} (hr:fn.results = #[.tmp s]) (hs:Λ s=some q) (hAt:At B h0 Γ Λ F n a w):Pv P fn B h0 F q aZ.rf .ret a w:=by
 obtain ⟨h,L,hl,hst,rV,nN,_,hdf⟩:=hAt
 obtain ⟨e,hL,hq⟩:=rV s q hs
 refine fun hB=>.inl ⟨hdf.trans hB,a.gt s,?_,a.gt s,h,e,rfl,hl,hst.one s hL,trivial,hq⟩
 have hv:(resV a.tmps (.tmp s)).run P w = .ok (a.gt s) w:=rfl
 rw [yt];simp [hr,hv]
end
theorem Gq {d:Nat} {f:FuncId} {fn:Func} {args:List aZ} {q:dU} {post:aZ} {xs:Array Operand} {ts:Array TypeId} (hc:LW P f args q post) (hf:P.funcs[f]? = some fn) (hb:qO fn=true) (hd:oL (post :: args)=true) (hdst:o.dst=some d)
    (ho:o.op = .call { callee:=.value (.func f),args:=xs,argTypes:=ts }) (hargs:uT N args xs.toList):dR P o N [] post [(d,some q)]:=by
  intro κ B F L h a w hst hn _ hdn next Q hnext _
  simp only [qO,Bool.and_eq_true,Bool.not_eq_true'] at hb
  have hbody:fn.body≠none:=by
    intro hx;rw [hx] at hb;cases hb.1
  have hname:fn.name ≠ "runtime.NumGoroutine":=by simpa using hb.2
  have hdp:=mO hd
  obtain ⟨hlen,hall⟩:=hargs.spec
  unfold Oper.pY
  have:(execOp a.eval o).run P w = .ok (.enter f (xs.toList.map a.eval).toArray) w:=by
    have e:(xs.toList.map a.eval).toArray=xs.map a.eval:=by apply Array.ext';simp
    rw [e]
    simp [execOp,ho,resolve,Act.eval,Deferred.ofValue,invoke,callFunc,hf,hname,hbody]
  rw [this,BU]
  refine (hc _ B (Sum.elim L F) h w (xs.toList.map a.eval) hst (by rw [List.length_map];exact hlen) ?_).mono ?_
  · intro i g v hg hv
    rw [List.getElem?_map] at hv
    cases hx:xs.toList[i]? with
    | none=>rw [hx] at hv;cases hv
    | some x =>
      rw [hx] at hv;cases hv
      have:=hall i g x hg hx h a hn
      unfold aZ.dv at this
      rw [hdp g (List.mem_cons_of_mem _ (List.mem_of_getElem? hg))] at this
      exact this
  · rintro e w' ⟨v,h',x,rfl,hl,hst',hp,hq⟩
    refine hnext v h' w' (set1 L d x) hl ?_ ?_ ?_
    · unfold aZ.dv
      rw [hdp post List.mem_cons_self]
      exact hp
    · refine hst'.AY (fun k => match k with | .inl k => if k = d then .inl () else .inr (.inl k) | .inr k => .inr (.inr k)) ?_ ?_
      · intro k e hk
        cases k with
        | inr k=>exact hk
        | inl k =>
          by_cases hkd:k=d
          · subst hkd;simp [set1] at hk;simp [hk]
          · simp [set1,hkd] at hk;simp [hkd,hk]
      · intro k k' e1 e2 h1 h2 hne
        cases k with
        | inr k=>cases k' with
          | inr k'=>intro he;exact hne (by rw [Sum.inr.inj (Sum.inr.inj he)])
          | inl k'=>intro he;simp only [] at he;split at he <;> cases he
        | inl k=>cases k' with
          | inr k'=>intro he;simp only [] at he;split at he <;> cases he
          | inl k' =>
            have hne':k≠k':=fun x=>hne (by rw [x])
            simp only []
            intro he
            split at he <;> split at he
            · rename_i h3 h4;exact hne' (h3.trans h4.symm)
            · cases he
            · cases he
            · exact hne' (Sum.inl.inj (Sum.inr.inj he))
    · rw [hdst]
      exact nO (by rw [iF (hdn d hdst)];exact hq)
theorem LG {q:dU} {s d:Nat} (hsd:Nat.beq s d=false) (hd:o.dst=some d) (ho:o.op = .extract (.tmp s) 0):dR P o N [(s,Ql q)] aZ.rf [(s,none),(d,some q)]:=by
 intro κ B F L h a w hst hn hk hdn next Q hnext _
 obtain ⟨e,hL,x,y,hv,hq⟩:=hk.1
 have hne:s≠d:=fun x=>by rw [iP.2 x] at hsd;cases hsd
 have hv':a.eval (.tmp s) = .tuple #[x,y]:=hv
 unfold Oper.pY
 have:(execOp a.eval o).run P w = .ok (.value x) w:=by simp [execOp,ho,hv',Instr.extract]
 rw [this]
 refine hnext _ h w _ (mQ.refl h) trivial (hst.mv s d) ?_
 rw [hd]
 exact FZ hne hL (by rw [iF (hdn d hd)];exact hq)
end Go.KB
namespace Go.KB
variable {P:Program} {o:Oper} {N:List (Nat×aZ)} {f:aZ} {α β:Type}
structure Oy where
 b:Nat
 cap:Nat
 pre:List Value
 post:List Value
def Df (K:Oy) (E:TypeId) (r:Rep α) (xs:List α):iH where
 claims:=[(K.b,0)]
 ok:=fun h m=>∃ cs,m K.b=some (.cells (K.pre ++ cs ++ K.post).toArray E (0,0))∧rF r h cs xs
 mono:=by rintro h h' m hl ⟨cs,e,k⟩;exact ⟨cs,e,k.mono hl⟩
 frame:=fun hm ⟨cs,e,k⟩=>⟨cs,by rw [hm (K.b,0) (by simp)];exact e,k⟩
def KU (K:Option Oy) (E:TypeId) (r:Rep α) (xs:List α):dU:=fun v e =>
 match K with
 | none=>(∃ base,v = .slice base 0 0)∧xs=[]∧e=Dc
 | some K=>v = .slice (some ⟨K.b,K.pre.length,none⟩) xs.length K.cap∧xs.length≤K.cap∧e=Df K E r xs
theorem Zu {κ:Type} {B:Base} {h:H} {L:Nat→Option iH} {F:κ→Option iH} {w:World} (hst:St B h (Sum.elim L F) w) {s:Nat} {K:Oy} {E:TypeId} {r:Rep α} {xs:List α}
  (hk:L s=some (Df K E r xs)):∃ cs,w.heap[K.b]? = some (.cells (K.pre ++ cs ++ K.post).toArray E (0,0))∧rF r h cs xs:=(hst.own (k:=Sum.inl s) hk).2
def fSub (s sz lo len:Nat):aZ:=⟨some s,fun _ d v=>(∃ base,d = .slice base 0 0∧v = .slice base 0 0∧lo=0∧len=0) ∨
 ∃ b p L cap,d = .slice (some ⟨b,p,none⟩) L cap∧lo+len≤L∧v = .slice (some ⟨b,if cap=lo then p else p+lo * sz,none⟩) len (cap - lo),fun _ x=>x⟩
theorem LU {T E:TypeId} {r:Rep α} {s:Nat} {x:Operand} {lo hi:Option Operand} {xs ys:List α} {l m:Int} (hq:QY xs l m=some ys) (t:jT P E r) (hT:P.underlying T=some (.slice E)) (ho:o.op = .slice T x lo hi none) (hx:bW N x (QI s))
  (hl:IQ N 0 lo l) (hm:IQ N xs.length hi m):dR P o N [(s,fG E r xs)] (fSub s r.sz l.toNat (m.toNat - l.toNat)) []:=by
 obtain ⟨h0,h1,h2,rfl⟩:=Pq hq
 intro κ B F L h a w hst hn hk _ next Q hnext _
 obtain ⟨e,_,hq⟩:=hk.1
 have hx':a.eval x=a.gt s:=hx h a hn
 unfold Oper.pY
 rcases hq with ⟨⟨base,hv⟩,rfl,_⟩ | ⟨b,cap,hv,hc,_⟩
 ·have hv':a.gt s=_:=hv
  have hrun:=Ic (w:=w) (base:=base) (cap:=0) hT t hn hl hm h0 h1 h2 (Nat.le_refl _)
  have hm0:m.toNat=0:=by simp at h2;omega
  have hl0:l.toNat=0:=by omega
  rw [hm0,hl0] at hrun
  have:(execOp a.eval o).run P w = .ok (.value (.slice base 0 0)) w:=by
   simp only [execOp,ho,hx',hv',Option.map_none,Sem.run_bind] at hrun ⊢
   simp only [List.length_nil] at hrun
   rw [hrun];simp
  rw [this]
  exact hnext _ h w L (mQ.refl h) (.inl ⟨base,hv',rfl,hl0,by omega⟩) hst mM
 ·have hv':a.gt s=_:=hv
  have hrun:=Ic (w:=w) (base:=some ⟨b,0,none⟩) hT t hn hl hm h0 h1 h2 hc
  have:(execOp a.eval o).run P w = .ok (.value (.slice (some ⟨b,if cap=l.toNat then 0 else 0+l.toNat * r.sz,none⟩) (m.toNat - l.toNat) (cap - l.toNat))) w:=by
   simp only [execOp,ho,hx',hv',Option.map_none,Sem.run_bind] at hrun ⊢
   rw [hrun]
   simp only [Result.andThen_ok,Sem.run_pure]
   congr 3
   split
   ·rfl
   ·simp [Addr.add_mid]
  rw [this]
  exact hnext _ h w L (mQ.refl h) (.inr ⟨b,0,_,cap,hv',by omega,rfl⟩) hst mM
theorem St.swap {κ:Type} {B:Base} {h:H} {L:Nat→Option iH} {F:κ→Option iH} {w:World} (hst:St B h (Sum.elim L F) w) {s:Nat} {e e':iH} (hL:L s=some e)
  (hcl:∀ c ∈ e'.claims,∃ c0 ∈ e.claims,c0.1=c.1∧c0.2≤c.2) (hok:e'.ok h (World.mem w)):St B h (Sum.elim (set1 L s e') F) w:=by
 obtain ⟨hcl0,_⟩:=hst.own (k:=Sum.inl s) hL
 refine hst.step (Sum.inl s) (fun _=>False) (fun _ hb=>hb.elim) (Nat.le_refl _) rfl rfl rfl (fun _ _ _=>rfl) (mQ.refl h) (fun _ _ _ _=>rfl) ?_ sN ?_
 ·rintro b o' v (hb | hb) hv
  ·exact hb.elim
  ·rw [hst.fresh hb] at hv;cases hv
 ·intro e1 he
  rw [sO he]
  refine ⟨fun c hc=>?_,hok⟩
  obtain ⟨c0,hc0,h1,h2⟩:=hcl c hc
  obtain ⟨_,h3,h4⟩:=hcl0 c0 hc0
  exact ⟨.inr ⟨_,hL,c0,hc0,h1⟩,by omega,fun o ho=>by rw [← h1];exact h4 o (by omega)⟩
theorem EI {L:Nat→Option iH} {s:Nat} {e:iH} (hL:L s=some e):set1 L s e=L:=by
 funext k;unfold set1;split
 ·rename_i hk;rw [hk,hL]
 ·rfl
theorem BQ {L:Nat→Option iH} {s:Nat} {e e':iH}:set1 (set1 L s e) s e'=set1 L s e':=by
 funext k;unfold set1;split <;> rfl
theorem qU {L:Nat→Option iH} {s:Nat} {e:iH}:set1 L s e s=some e:=by simp [set1]
def Cm (s:Nat) (fx:aZ) (q0 q0':dU) {ι:Type} (q q':ι→dU):Prop :=
 ∀ (κ:Type) (B:Base) (F:κ→Option iH) (L:Nat→Option iH) (h:H) (w:World) (d v:Value) (e:iH),St B h (Sum.elim L F) w→L s=some e→q0 d e→fx.p h d v →
  ∃ k x,q k v x∧St B h (Sum.elim (set1 L s x) F) w∧∀ (h':H) (w':World) (x':iH),mQ h h'→q' k v x'→St B h' (Sum.elim (set1 L s x') F) w'→∃ e',q0' d e'∧St B h' (Sum.elim (set1 L s e') F) w'
theorem Cm.cp {s:Nat} {q0 q0':dU}:Cm s (QI s) q0 q0' (fun _:Unit=>q0) (fun _=>q0'):=by
 intro κ B F L h w d v e hst hL hq hv
 have hv:v=d:=hv
 subst hv
 exact ⟨(),e,hq,by rw [EI hL];exact hst,fun h' w' x' hle' hq' hst'=>⟨x',hq',hst'⟩⟩
theorem Cm.arr {s:Nat} {E:TypeId} {r:Rep α} {xs xs':List α}:Cm s (QI s) (fG E r xs) (fG E r xs') (fun K:Option Oy=>KU K E r xs) (fun K=>KU K E r xs'):=by
  intro κ B F L h w d v e hst hL hq hv
  have hv:v=d:=hv
  subst hv
  rcases hq with ⟨hv,rfl,rfl⟩ | ⟨b,cap,hv,hc,rfl⟩
  · refine ⟨none, Dc, ⟨hv, rfl, rfl⟩, by rw [EI hL]; exact hst, fun h' w' x' hle' hq' hst' => ⟨x', ?_, hst'⟩⟩
    obtain ⟨h1,h2,h3⟩:=hq'
    exact .inl ⟨h1,h2,h3⟩
  · obtain ⟨cs,rest,hb,hr,hlen⟩:=FX hst hL
    refine ⟨some ⟨b,cap,[],rest⟩,Df ⟨b,cap,[],rest⟩ E r xs,⟨by simpa using hv,hc,rfl⟩,
      hst.swap hL (fun c hc=>⟨c,by simpa [Df,oO] using hc,rfl,Nat.le_refl _⟩) ⟨cs,by simpa [World.mem] using hb,hr⟩,fun h' w' x' hle' hq' hst'=>?_⟩
    obtain ⟨h1,h2,rfl⟩:=hq'
    obtain ⟨cs',hb',hr'⟩:=Zu hst' qU
    have hl:xs'.length=xs.length:=by rw [hv] at h1;injection h1 with _ h3 _;exact h3.symm
    refine ⟨oO b E r xs' cap,.inr ⟨b,cap,by rw [hl];exact hv,by omega,rfl⟩,?_⟩
    have:=hst'.swap (e':=oO b E r xs' cap) qU (fun c hc=>⟨c,by simpa [Df,oO] using hc,rfl,Nat.le_refl _⟩) ⟨cs',rest,by simpa [World.mem] using hb',hr',by
      rw [← hlen,List.length_append,List.length_append,hr'.len,hr.len,hl]⟩
    rwa [BQ] at this
theorem rF.split {r:Rep α} {h:H}:∀ {xs:List α} {cs:List Value} (n:Nat),rF r h cs xs→n≤xs.length→∃ c d,cs=c ++ d∧rF r h c (xs.take n)∧rF r h d (xs.drop n):=by
 intro xs
 induction xs with
 | nil=>intro cs n k hn;exact ⟨[],cs,rfl,by simp [rF],by simpa using k⟩
 | cons x xs ih =>
  intro cs n k hn
  cases n with
  | zero=>exact ⟨[],cs,rfl,rfl,k⟩
  | succ n =>
   obtain ⟨c,d,rfl,hc,hd⟩:=k
   obtain ⟨c',d',rfl,hc',hd'⟩:=ih n hd (by simpa using hn)
   exact ⟨c ++ c',d',by simp,⟨c,c',rfl,hc,hc'⟩,hd'⟩
def LJ (P:Program) (f:FuncId) (args:List aZ) (i:Nat) (q q':dU) (post:aZ):Prop :=
 ∀ (κ:Type) (B:Base) (L:κ→Option iH) (h:H) (w:World) (vs:List Value) (x:iH) (v:Value),St B h (Sum.elim (fun _:Unit=>some x) L) w→args.length=vs.length→vs[i]? = some v→q v x →
  (∀ (j:Nat) (g:aZ) (u:Value),args[j]? = some g→vs[j]? = some u→g.p h undef u) →
  Calls P f vs.toArray w (fun e w'=>∃ u h' x',e = .returned u∧mQ h h'∧St B h' (Sum.elim (fun _:Unit=>some x') L) w'∧post.p h' undef u∧q' v x')
theorem St.enter {κ:Type} {B:Base} {h:H} {F:κ→Option iH} {w:World} {x:iH} (i:Nat) (hst:St B h (Sum.elim (fun _:Unit=>some x) F) w):St B h (Sum.elim (fun k=>if k=i then some x else none) F) w:=by
 refine hst.AY (fun k=>match k with | .inl _=>.inl () | .inr k=>.inr k) ?_ ?_
 ·intro k e hk
  cases k with
  | inl k =>
   simp only [Sum.elim_inl] at hk
   split at hk
   ·exact hk
   ·cases hk
  | inr k=>exact hk
 ·intro k k' e e' hk hk' hne
  cases k with
  | inl k=>cases k' with
   | inl k' =>
    simp only [Sum.elim_inl] at hk hk'
    split at hk <;> split at hk'
    ·rename_i h1 h2;exact absurd (by rw [h1,h2]) hne
    ·cases hk'
    ·cases hk
    ·cases hk
   | inr k'=>intro he;cases he
  | inr k=>cases k' with
   | inl k'=>intro he;cases he
   | inr k'=>intro he;exact hne (by rw [Sum.inr.inj he])
section
variable {κ:Type} {B:Base} {h h0:H} {L:Nat→Option iH} {Γ:Ctx} {Λ:Own} {F:κ→Option iH} {n:Nat} {a:Act} {w:World} {q:dU} {i:Nat} {v:Value}
end
theorem St.out {κ:Type} {B:Base} {h:H} {L:Nat→Option iH} {F:κ→Option iH} {w:World} {x:iH} {s:Nat} (hst:St B h (Sum.elim (set1 L s x) F) w) :
  St B h (Sum.elim (fun _:Unit=>some x) (Sum.elim (fun k=>if k=s then none else L k) F)) w:=by
 refine hst.AY (fun k=>match k with | .inl _=>.inl s | .inr (.inl k)=>.inl k | .inr (.inr k)=>.inr k) ?_ ?_
 ·intro k e hk
  cases k with
  | inl k=>simpa [set1] using hk
  | inr k=>cases k with
   | inl k =>
    simp only [Sum.elim_inr,Sum.elim_inl] at hk
    split at hk
    ·cases hk
    ·rename_i hne;simpa [set1,hne] using hk
   | inr k=>exact hk
 ·intro k k' e e' hk hk' hne
  have key:∀ (j:Nat) (e:iH),(if j=s then none else L j)=some e→j≠s:=fun j e hj hjs=>by rw [if_pos hjs] at hj;cases hj
  cases k with
  | inl k=>cases k' with
   | inl k'=>exact absurd rfl hne
   | inr k'=>cases k' with
    | inl k'=>intro he;exact key _ _ hk' (Sum.inl.inj he).symm
    | inr k'=>intro he;cases he
  | inr k=>cases k with
   | inl k=>cases k' with
    | inl k'=>intro he;exact key _ _ hk (Sum.inl.inj he)
    | inr k'=>cases k' with
     | inl k'=>intro he;exact hne (by rw [Sum.inl.inj he])
     | inr k'=>intro he;cases he
   | inr k=>cases k' with
    | inl k'=>intro he;cases he
    | inr k'=>cases k' with
     | inl k'=>intro he;cases he
     | inr k'=>intro he;exact hne (by rw [Sum.inr.inj he])
theorem St.into {κ : Type} {B : Base} {h : H} {L : Nat → Option iH} {F : κ → Option iH} {w : World} {x : iH} {s : Nat} (hst : St B h (Sum.elim (fun _ : Unit => some x) (Sum.elim (fun k => if k = s then none else L k) F)) w) :
    St B h (Sum.elim (set1 L s x) F) w:=by
  refine hst.AY (fun k=>match k with | .inl k=>if k=s then .inl () else .inr (.inl k) | .inr k=>.inr (.inr k)) ?_ ?_
  · intro k e hk
    cases k with
    | inr k=>exact hk
    | inl k =>
      by_cases hks:k=s
      · subst hks;simp [set1] at hk;simp [hk]
      · simp [set1,hks] at hk;simp [hks,hk]
  · intro k k' e1 e2 h1 h2 hne
    cases k with
    | inr k=>cases k' with
      | inr k'=>intro he;exact hne (by rw [Sum.inr.inj (Sum.inr.inj he)])
      | inl k'=>intro he;simp only [] at he;split at he <;> cases he
    | inl k=>cases k' with
      | inr k'=>intro he;simp only [] at he;split at he <;> cases he
      | inl k' =>
        have hne':k≠k':=fun x=>hne (by rw [x])
        simp only []
        intro he
        split at he <;> split at he
        · rename_i h3 h4;exact hne' (h3.trans h4.symm)
        · cases he
        · cases he
        · exact hne' (Sum.inl.inj (Sum.inr.inj he))
theorem Qr {x:Operand}:bW N x aZ.rf:=fun _ _ _=>trivial
theorem Gs {s:Nat}:bW N (.tmp s) (QI s):=fun _ _ _=>rfl
theorem VO {s i:Nat} {ι:Type} {q0 q0':dU} {q q':ι→dU} {fx:aZ} {f:FuncId} {fn:Func} {args:List aZ} {post:aZ} {xs:Array Operand} {ts:Array TypeId} {y:Operand}
  (hc:∀ k,LJ P f args i (q k) (q' k) post) (hb:Cm s fx q0 q0' q q') (hfx:fx.dep=some s) (hf:P.funcs[f]? = some fn) (hbd:qO fn=true) (hd:oL (post :: args)=true) (hds:IJ o.dst s=true)
  (ho:o.op = .call { callee:=.value (.func f),args:=xs,argTypes:=ts }) (hy:xs.toList[i]? = some y) (hyx:bW N y fx) (hargs:uT N args xs.toList):dR P o N [(s,q0)] post [(s,some q0')]:=by
 intro κ B F L h a w hst hn hk hdn next Q hnext _
 obtain ⟨e,hL,hq⟩:=hk.1
 have hL:L s=some e:=hL
 have hvx:=hyx h a hn
 unfold aZ.dv at hvx
 rw [hfx] at hvx
 obtain ⟨k,x,hqx,hst1,hback⟩:=hb κ B F L h w (a.gt s) (a.eval y) e hst hL hq hvx
 simp only [qO,Bool.and_eq_true,Bool.not_eq_true'] at hbd
 have hbody:fn.body≠none:=by
  intro hx;rw [hx] at hbd;cases hbd.1
 have hname:fn.name ≠ "runtime.NumGoroutine":=by simpa using hbd.2
 have hdp:=mO hd
 obtain ⟨hlen,hall⟩:=hargs.spec
 unfold Oper.pY
 have:(execOp a.eval o).run P w = .ok (.enter f (xs.toList.map a.eval).toArray) w:=by
  have e:(xs.toList.map a.eval).toArray=xs.map a.eval:=by apply Array.ext';simp
  rw [e]
  simp [execOp,ho,resolve,Act.eval,Deferred.ofValue,invoke,callFunc,hf,hname,hbody]
 rw [this,BU]
 refine (hc k _ B _ h w (xs.toList.map a.eval) x (a.eval y) hst1.out (by rw [List.length_map];exact hlen) (by rw [List.getElem?_map,hy];rfl) hqx ?_).mono ?_
 ·intro j g v hg hv
  rw [List.getElem?_map] at hv
  cases hx:xs.toList[j]? with
  | none=>rw [hx] at hv;cases hv
  | some x =>
   rw [hx] at hv;cases hv
   have:=hall j g x hg hx h a hn
   unfold aZ.dv at this
   rw [hdp g (List.mem_cons_of_mem _ (List.mem_of_getElem? hg))] at this
   exact this
 ·rintro e w' ⟨v,h',x',rfl,hl,hst',hp,hq'⟩
  obtain ⟨e',hq0',Zj⟩:=hback h' w' x' hl hq' hst'.into
  refine hnext v h' w' _ hl ?_ Zj ?_
  ·unfold aZ.dv
   rw [hdp post List.mem_cons_self]
   exact hp
  ·refine nO ?_
   rw [wZ (by
    intro hd;unfold IJ at hds;rw [hd] at hds
    simp [Nat.beq_refl] at hds)]
   exact hq0'
end Go.KB
