/- Appending, making, cutting slices; rows that are written. Rows that are made and written; cuts of slices; texts; comparisons. Texts; comparisons of bools and structs. Branches, loops, calls, returns. Function values; functions that hand a row back; a slice against nil. Functions that write what the caller owns: a row, a part of a row, a variable. No condition. -/
import Derived.Test.YtdmioehoinnamaaGreatDoorKZa
import Derived.Laws.StructEq
import Derived.Laws.Strings
import Derived.WalkSpells
import Derived.Lib.BufferMore
namespace Go.KB
variable {P:Program} {o:Oper} {N:List (Nat×aQ)} {f:aQ} {α β:Type}
def mv (L:Nat→Option gq) (s d:Nat):Nat→Option gq:=fun k=>if k=d then L s else if k=s then none else L k
theorem St.mv {κ:Type} {B:Base} {h:H} {L:Nat→Option gq} {F:κ→Option gq} {w:World} (hst:St B h (Sum.elim L F) w) (s d:Nat):St B h (Sum.elim (mv L s d) F) w:=by
 refine hst.FX (fun k=>match k with | .inr k=>.inr k | .inl k=>if k=d then .inl s else .inl k) ?_ ?_
 ·intro k' e hk
  cases k' with
  | inr k=>exact hk
  | inl k =>
   simp only [Sum.elim_inl,KB.mv] at hk
   simp only []
   split at hk
   ·rename_i h1;rw [if_pos h1];exact hk
   ·rename_i h1
    rw [if_neg h1]
    split at hk
    ·cases hk
    ·exact hk
 ·intro k k' e e' hk hk' hne
  cases k with
  | inr k=>cases k' with
   | inr k'=>intro he;exact hne he
   | inl k'=>intro he;simp only [] at he;split at he <;> cases he
  | inl k=>cases k' with
   | inr k'=>intro he;simp only [] at he;split at he <;> cases he
   | inl k' =>
    simp only [Sum.elim_inl,KB.mv] at hk hk'
    have hne':k≠k':=fun x=>hne (by rw [x])
    simp only []
    intro he
    split at he <;> split at he
    ·rename_i h1 h2;exact hne' (h1.trans h2.symm)
    ·rename_i h1 h2
     have:=Sum.inl.inj he
     rw [if_neg h2,if_pos this.symm] at hk';cases hk'
    ·rename_i h1 h2
     have:=Sum.inl.inj he
     rw [if_neg h1,if_pos this] at hk;cases hk
    ·exact hne' (Sum.inl.inj he)
theorem OL {L0 L:Nat→Option gq} {s d:Nat} {e:gq} {q:eP} {a:Act} (hL0:∀ k,k≠s→L k=L0 k) (hsd:s≠d) (hL:L s=some e) (hq:q (a.gt d) e):Ea L0 (mv L s d) (full [(s,none),(d,some q)] (some d)) a:=by
  intro k
  have WT:Nat.beq s d=false:=by rw [Bool.eq_false_iff,Ne,iQ];exact hsd
  by_cases hk:k=d
  · subst hk
    have:qw (full [(s,none),(k,some q)] (some k)) k=some (some q):=by simp [full,qw,WT,Nat.beq_refl]
    rw [this];exact ⟨e,by simp [mv,hL],hq⟩
  · by_cases hks : k = s
    · subst hks
      have:qw (full [(k,none),(d,some q)] (some d)) k=some none:=by simp [full,qw,Nat.beq_refl]
      rw [this];trivial
    · have h1 : Nat.beq s k = false := by rw [Bool.eq_false_iff, Ne, iQ]; exact fun x => hks x.symm
      have h2:Nat.beq d k=false:=by rw [Bool.eq_false_iff,Ne,iQ];exact fun x=>hk x.symm
      have:qw (full [(s,none),(d,some q)] (some d)) k=none:=by simp [full,qw,h1,h2]
      rw [this];simp only [mv,hk,hks,if_false];exact hL0 k hks
theorem Iz {L:Nat→Option gq} {s d:Nat} {e:gq} {q:eP} {a:Act} (hsd:s≠d) (hL:L s=some e) (hq:q (a.gt d) e):Ea L (mv L s d) (full [(s,none),(d,some q)] (some d)) a:=OL (fun _ _=>rfl) hsd hL hq
theorem fK {q:eP} {s d:Nat} (hsd:Nat.beq s d=false) (hd:o.dst=some d) (ho:o.op = .move (.tmp s)∨o.op = .assign (.tmp s)) (hx:bF N (.tmp s) f):di P o N [(s,q)] f [(s,none),(d,some q)]:=by
 intro κ B F L h a w hst hn hk hdn next Q hnext _
 obtain ⟨e,hL,hq⟩:=hk.1
 have hne:s≠d:=fun x=>by rw [iQ.2 x] at hsd;cases hsd
 unfold Oper.rJ
 have:(execOp a.eval o).run P w = .ok (.value (a.gt s)) w:=by rcases ho with ho | ho <;> (simp [execOp,ho,Act.eval,Act.gt])
 rw [this]
 refine hnext _ h w _ (nI.refl h) (hx h a hn) (hst.mv s d) ?_
 rw [hd]
 exact Iz hne hL (by rw [fG (hdn d hd)];exact hq)
theorem dP {E:TypeId} {r:Rep α} {sz d:Nat} (hd:o.dst=some d) (ho:o.op = .assign (.const (.slice none 0 0))∨o.op = .move (.const (.slice none 0 0))):di P o N [] (fV (Rep.slice r) []) [(d,some (eH E sz))]:=by
 intro κ B F L h a w hst hn _ hdn next Q hnext _
 unfold Oper.rJ
 have:(execOp a.eval o).run P w = .ok (.value (.slice none 0 0)) w:=by rcases ho with ho | ho <;> (simp [execOp,ho];rfl)
 rw [this]
 have hst':St B h (Sum.elim (set1 L d oV) F) w:=by
  refine hst.step (Sum.inl d) (fun _=>False) (fun b hb=>hb.elim) (Nat.le_refl _) rfl rfl rfl (fun _ _ _=>rfl) (nI.refl h) (fun _ _ _ _=>rfl) ?_ vg ?_
  ·rintro b o' v (hb | hb) hv
   ·exact hb.elim
   ·rw [hst.fresh hb] at hv;cases hv
  ·intro e' he;rw [vk he];exact ⟨fun c hc=>(by cases hc),trivial⟩
 refine hnext _ h w _ (nI.refl h) (pK.2 (.inl ⟨⟨none,rfl⟩,rfl⟩)) hst' ?_
 rw [hd]
 exact qL (.inl ⟨none,0,fG (hdn d hd),rfl⟩)
def lim:Nat:=2 ^ 37
def app (xs ys:List α):Option (List α):=bif Nat.ble (xs.length+ys.length) lim then some (xs ++ ys) else none
theorem Qm {xs ys zs:List α} (h:app xs ys=some zs):zs=xs ++ ys∧xs.length+ys.length≤lim:=by
 unfold app at h
 cases hb:Nat.ble (xs.length+ys.length) lim with
 | true=>rw [hb] at h;cases h;exact ⟨rfl,Nat.le_of_ble_eq_true hb⟩
 | false=>rw [hb] at h;cases h
theorem Dz {T ty E:TypeId} {i:TypeInfo} (w:World) (ht:P.underlying T=some (.slice E)) (hi:P.info? E=some i) (g off sLen sCap:Nat) (cur:Array Value) (hg:w.heap[g]? = some (.cells cur E (0,0)))
  (a:Addr) (m c:Nat) (news:List Value) (hl:news.length=m * i.size) (hnews:∀ j u,news[j]? = some u→w.cell? (a.add j)=some u) (h1:∀ u ∈ news,u.oneCell'=true) (hroom:sLen+m≤sCap) (hfit:off+sLen * i.size+news.length≤cur.size) :
  (Builtin.append_ #[T,T] ty #[.slice (some ⟨g,off,none⟩) sLen sCap,.slice (some a) m c]).run P w =
   .ok (.slice (some ⟨g,off,none⟩) (sLen+m) sCap) (w.setRow g (cur.toList.take (off+sLen * i.size) ++ news ++ cur.toList.drop (off+sLen * i.size+news.length)).toArray):=by
 have hf:=run_firstCells_some (P:=P) w i.size m a m c news hl hnews
 have hst:=run_storeCells_at P g (off+sLen * i.size) E news 0 cur w hg (by simpa using hfit) h1
 simp only [Nat.add_zero] at hst
 simp [Builtin.append_,run_underlying ht,sizeOf,typeInfo,hi,Builtin.lenOf,hroom,hf,Addr.add_mid,hst]
theorem run_append_nothing {T ty E:TypeId} {i:TypeInfo} (w:World) (ht:P.underlying T=some (.slice E)) (hi:P.info? E=some i) (base:Option Addr) (sLen sCap:Nat) (hl:sLen≤sCap) (y:Option Addr) (c:Nat) :
  (Builtin.append_ #[T,T] ty #[.slice base sLen sCap,.slice y 0 c]).run P w = .ok (.slice base sLen sCap) w:=by
 have hf:(Builtin.firstCells i.size 0 (.slice y 0 c)).run P w = .ok #[] w:=by
  cases y with
  | none=>rfl
  | some a=>simp [Builtin.firstCells,loadCells,loadCellsFrom]
 cases base with
 | none=>simp [Builtin.append_,run_underlying ht,sizeOf,typeInfo,hi,Builtin.lenOf,hl,hf]
 | some b=>simp [Builtin.append_,run_underlying ht,sizeOf,typeInfo,hi,Builtin.lenOf,hl,hf,storeCells]
theorem wH.le {r:Rep α} {h:H} {v:Value} {xs:List α} (k:wH r h v xs):∃ base cap,v = .slice base xs.length cap∧xs.length≤cap:=by
 rcases k with ⟨⟨base,rfl⟩,rfl⟩ | ⟨b,off,cap,rfl,hc,_⟩
 ·exact ⟨base,0,rfl,Nat.le_refl _⟩
 ·exact ⟨_,cap,rfl,hc⟩
theorem zlen (z:Array Value) (n:Nat):(Builtin.zeroCells z n).toList.length=n * z.size:=by rw [Array.length_toList,size_zeroCells]
theorem Eb {L:Nat→Option gq} {s d:Nat} {e:gq} {q:eP} {a:Act} (hsd:s≠d) (hq:q (a.gt d) e):Ea L (set1 L d e) (full [(s,none),(d,some q)] (some d)) a:=by
  intro k
  have WT:Nat.beq s d=false:=by rw [Bool.eq_false_iff,Ne,iQ];exact hsd
  by_cases hk:k=d
  · subst hk
    have:qw (full [(s,none),(k,some q)] (some k)) k=some (some q):=by simp [full,qw,WT,Nat.beq_refl]
    rw [this];exact ⟨e,by simp [set1],hq⟩
  · by_cases hks : k = s
    · subst hks
      have:qw (full [(k,none),(d,some q)] (some d)) k=some none:=by simp [full,qw,Nat.beq_refl]
      rw [this];trivial
    · have h1 : Nat.beq s k = false := by rw [Bool.eq_false_iff, Ne, iQ]; exact fun x => hks x.symm
      have h2:Nat.beq d k=false:=by rw [Bool.eq_false_iff,Ne,iQ];exact fun x=>hk x.symm
      have:qw (full [(s,none),(d,some q)] (some d)) k=none:=by simp [full,qw,h1,h2]
      rw [this];simp [set1,hk]

theorem St.grown {κ:Type} {B:Base} {h:H} {L:Nat→Option gq} {F:κ→Option gq} {w:World} (hst:St B h (Sum.elim L F) w) {r:Rep α} {cx cy:List Value} {xs ys:List α} (E:TypeId) (d cap:Nat) (hx:tJ r h cx xs) (hy:tJ r h cy ys) (hge:xs.length+ys.length≤cap) :
  ∃ h',nI h h'∧St B h' (Sum.elim (set1 L d (cellsE E w.heap.size ((xs.length+ys.length) * r.sz) (cap * r.sz))) F) (w.drew.alloc (.cells (cx.toArray ++ cy.toArray ++ Builtin.zeroCells (pack r.agg r.zc).cells (cap - (xs.length+ys.length))) E)) ∧
   wH r h' (.slice (some ⟨w.heap.size,0,none⟩) (xs.length+ys.length) cap) (xs ++ ys):=by
 have hzc:(pack r.agg r.zc).cells.size=r.sz:=by rw [vY (r.xX h)];simp [r.len (r.xX h)]
 have hxy:=hx.append hy
 obtain ⟨h',hle,hst',hsl⟩:=(hst.drawn (w.drawn+1) (Nat.le_succ _)).newRow (rest:=(Builtin.zeroCells (pack r.agg r.zc).cells (cap - (xs.length+ys.length))).toList) E d cap hxy (by
  rw [List.length_append,hxy.len,zlen,hzc,← Nat.add_mul,List.length_append];congr 1;omega) (by rw [List.length_append];exact hge)
 rw [List.length_append] at hst' hsl
 refine ⟨h',hle,?_,hsl⟩
 have:(cx.toArray ++ cy.toArray ++ Builtin.zeroCells (pack r.agg r.zc).cells (cap - (xs.length+ys.length)))=((cx ++ cy) ++ (Builtin.zeroCells (pack r.agg r.zc).cells (cap - (xs.length+ys.length))).toList).toArray:=by
  apply Array.ext';simp
 rw [this]
 exact hst'
theorem RZ {T E : TypeId} {r : Rep α} (b0 : Bool) {s d : Nat} {y : Operand} {xs ys : List α} (hbb : ∀ i, P.info? E = some i → i.bytes ≤ 1024 → (xs.length + ys.length) * i.bytes ≤ 140737488355328) (h63 : xs.length + ys.length ≤ 9223372036854775807) (el : zX P E r) (hT : P.underlying T = some (.slice E)) (hsd : Nat.beq s d = false) (hd : o.dst = some d)
    (ho:o.op = .call { callee:=.builtin .append,args:=#[.tmp s,y],argTypes:=#[T,T] }) (hx:bF N (.tmp s) (fV (Rep.slice r) xs)) (hy:bF N y (fV (Rep.slice { r with fr:=b0 }) ys)) :
    di P o N [(s,eH E r.sz)] (fV (Rep.slice r) (xs ++ ys)) [(s,none),(d,some (eH E r.sz))]:=by
  obtain ⟨i,hi,hsz,hby,hzero⟩:=el.out
  have hne:s≠d:=fun x=>by rw [iQ.2 x] at hsd;cases hsd
  have hbytes:(xs.length+ys.length) * i.bytes≤140737488355328:=hbb i hi hby
  intro κ B F L h a w hst hn hk hdn next Q hnext _
  obtain ⟨e,hL,hq⟩:=hk.1
  have hL:L s=some e:=hL
  have hq:eH E r.sz (a.gt s) e:=hq
  have hxv:wH r h (a.gt s) xs:=pK.1 (hx h a hn)
  have hyv:=pK.1 (hy h a hn)
  have hrun:∀ v w',(Builtin.append_ #[T,T] o.type #[a.gt s,a.eval y]).run P w = .ok v w'→(execOp a.eval o).run P w = .ok (.value v) w':=by
    intro v w' hr
    have he:a.eval (.tmp s)=a.gt s:=rfl
    simp only [execOp,ho,resolve,invoke,builtin,Sem.run_bind,Sem.run_pure,Result.andThen_ok,List.map_toArray,List.map_cons,List.map_nil,he,hr]
  unfold Oper.rJ
  -- nothing is appended
  by_cases hy0:ys=[]
  · subst hy0
    obtain ⟨base,cap,hv,hc⟩:=hxv.le
    obtain ⟨base',cap',hv',hc'⟩:=hyv.le
    rw [List.length_nil] at hv'
    rw [hrun _ _ (by rw [hv,hv'];exact run_append_nothing w hT hi base xs.length cap hc base' cap'),← hv]
    refine hnext _ h w _ (nI.refl h) (pK.2 (by rw [List.append_nil];exact hxv)) (hst.mv s d) ?_
    rw [hd]
    exact Iz hne hL (by rw [fG (hdn d hd)];exact hq)
  · have hypos:0<ys.length:=List.length_pos_iff.2 hy0
    rcases hyv with ⟨_,rfl⟩ | ⟨WL,KR,NI,KF,_,WU⟩
    · exact absurd rfl hy0
    obtain ⟨cy,hcy,hcyh⟩:=wH.cells WU
    have hcy:tJ r h cy ys:=hcy.fr
    have hnews:∀ j u,cy[j]? = some u→w.cell? ((⟨WL,KR,none⟩:Addr).add j)=some u:=fun j u hj=>by rw [Addr.add_mid];exact hst.ext (hcyh j u hj)
    have OM:cy.length=ys.length * i.size:=by rw [hcy.len,hsz]
    rcases hxv with ⟨⟨base,hxval⟩,rfl⟩ | ⟨b,off,cap,hxval,hcap,hxref⟩
    · -- onto nil
      simp only [List.length_nil,Nat.zero_add] at hbytes h63
      have hr:∃ v w',(Builtin.append_ #[T,T] o.type #[.slice base 0 0,.slice (some ⟨WL,KR,none⟩) ys.length NI]).run P w = .ok v w'∧v = .slice (some ⟨w.heap.size,0,none⟩) ys.length (grownCap w ys.length 0 E) ∧
          w'=w.drew.alloc (.cells (cy.toArray ++ Builtin.zeroCells (pack r.agg r.zc).cells (grownCap w ys.length 0 E - ys.length)) E):=by
        cases base with
        | none=>exact ⟨_,_,run_append_nil (P:=P) w T o.type E i _ hT hi hzero ⟨WL,KR,none⟩ ys.length NI cy OM hnews hypos (by omega) (by omega),rfl,rfl⟩
        | some a0 =>
          have hr:=run_append_grow (P:=P) w T o.type E i _ hT hi hzero a0 0 0 [] (by simp) (fun j u hj=>by simp at hj) ⟨WL,KR,none⟩ ys.length NI cy OM hnews (by omega) (by omega) (growslice_fits (by omega) (by simpa using hbytes))
          rw [Nat.zero_add] at hr
          exact ⟨_,_,hr,rfl,by simp⟩
      obtain ⟨v,w',hr,rfl,rfl⟩:=hr
      rw [hrun _ _ (by rw [hxval,KF];exact hr)]
      obtain ⟨h',hle,hst',hsl⟩:=hst.grown (cx:=[]) (xs:=([]:List α)) E d (grownCap w ys.length 0 E) rfl hcy (by rw [List.length_nil,Nat.zero_add];exact grownCap_ge w ys.length 0 E)
      simp only [List.length_nil,Nat.zero_add] at hst' hsl
      have he:(#[]:Array Value) ++ cy.toArray=cy.toArray:=by simp
      rw [show ([]:List Value).toArray = #[] from rfl,he] at hst'
      refine hnext _ h' _ _ hle (pK.2 hsl) hst' ?_
      rw [hd]
      exact Eb hne (.inr ⟨_,0,_,_,fG (hdn d hd),by simp⟩)
    · obtain ⟨cx,hcx,hcxh⟩:=wH.cells hxref
      by_cases hroom:xs.length+ys.length≤cap
      · -- in its place
        rcases hq with ⟨base1,len1,h1,_⟩ | ⟨b1,off1,len1,cap1,h1,h2⟩
        · rw [hxval] at h1
          injection h1 with _ h3 h4
          omega
        rw [hxval] at h1;cases h1
        rw [h2] at hL
        obtain ⟨hcl,cs,hb,hhi⟩:=hst.own (k:=Sum.inl s) hL
        have hno:=(hcl (b,off+xs.length * r.sz) (by simp [cellsE])).2.2
        have hb':w.heap[b]? = some (.cells cs E (0,0)):=hb
        have hcyl':=hcy.len
        have hmul:(xs.length+ys.length) * r.sz≤cap * r.sz:=Nat.mul_le_mul_right _ hroom
        rw [Nat.add_mul] at hmul
        have hfit:off+xs.length * r.sz+cy.length≤cs.size:=by omega
        have hr:=Dz (P:=P) (ty:=o.type) w hT hi b off xs.length cap cs hb' ⟨WL,KR,none⟩ ys.length NI cy OM hnews hcy.flat hroom (by rw [hsz];exact hfit)
        rw [hsz] at hr
        rw [hrun _ _ (by rw [hxval,KF];exact hr)]
        generalize hc2:(cs.toList.take (off+xs.length * r.sz) ++ cy ++ cs.toList.drop (off+xs.length * r.sz+cy.length)).toArray=cs2
        have hsz2:cs2.size=cs.size:=by rw [← hc2];simp;omega
        have hlow:∀ o',o'<off+xs.length * r.sz→cs2[o']? = cs[o']?:=by
          intro o' ho'
          rw [← hc2]
          simp only [List.getElem?_toArray,List.append_assoc]
          rw [List.getElem?_append_left (by simp;omega),List.getElem?_take,if_pos ho']
          simp
        have hmid:∀ j v,cy[j]? = some v→cs2[off+xs.length * r.sz+j]? = some v:=by
          intro j v hj
          have hjl:=(List.getElem?_eq_some_iff.1 hj).1
          rw [← hc2]
          simp only [List.getElem?_toArray,List.append_assoc]
          rw [List.getElem?_append_right (by simp;omega)]
          have:(List.take (off+xs.length * r.sz) cs.toList).length=off+xs.length * r.sz:=by simp;omega
          rw [this,Nat.add_sub_cancel_left,List.getElem?_append_left hjl];exact hj
        have hw2:(w.setRow b cs2).heap[b]? = some (.cells cs2 E (0,0)):=setRow_heap w b cs cs2 E (0,0) hb'
        have hst1:St B h (Sum.elim L F) (w.setRow b cs2):=by
          refine hst.write (Sum.inl s) (e:=cellsE E b (off+xs.length * r.sz) (off+cap * r.sz)) hL (b:=b) (lo:=off+xs.length * r.sz) (by simp [cellsE]) hw2 (fun k hk'=>setRow_other w b k cs2 hk') (by simp [World.setRow]) rfl rfl rfl ?_ (fun _ _ _ x=>x) ?_
          · intro o' v hv
            have ho':o'<off+xs.length * r.sz:=Nat.lt_of_not_le fun hge=>by rw [hno o' hge] at hv;cases hv
            rw [hlow o' ho']
            have:=hst.ext hv
            rwa [xI _ _ _ _ _ _ hb'] at this
          · intro e' he'
            have:e'=cellsE E b (off+xs.length * r.sz) (off+cap * r.sz):=by simpa [hL] using he'.symm
            rw [this]
            exact ⟨fun c hc=>hc,cs2,hw2,by rw [hsz2];exact hhi⟩
        obtain ⟨hle, hst2⟩ := hst1.freeze (Sum.inl s) (e := cellsE E b (off + xs.length * r.sz) (off + cap * r.sz)) hL (b := b) (lo := off + xs.length * r.sz) (by simp [cellsE]) hw2 (off + (xs.length + ys.length) * r.sz) (by rw [hsz2, Nat.add_mul]; omega)
          (L':=Sum.elim (set1 L s (cellsE E b (off+(xs.length+ys.length) * r.sz) (off+cap * r.sz))) F) vg (by
            intro e' he'
            rw [vk he']
            refine ⟨?_,cs2,hw2,by rw [hsz2];exact hhi⟩
            intro q hq
            simp [cellsE] at hq
            subst hq
            exact ⟨⟨(b,off+xs.length * r.sz),by simp [cellsE],rfl,by simp only [Nat.add_mul];omega⟩,fun _=>Nat.le_refl _⟩)
        have hst3:=hst2.mv s d
        have hh:∀ j v,(cx ++ cy)[j]? = some v→hadd h b (cs2.toList.take (off+(xs.length+ys.length) * r.sz)) b (off+j)=some v:=by
          intro j v hj
          have hjl:=(List.getElem?_eq_some_iff.1 hj).1
          rw [List.length_append,hcx.len,hcyl'] at hjl
          have hlen2:(cs2.toList.take (off+(xs.length+ys.length) * r.sz)).length=off+(xs.length+ys.length) * r.sz:=by
            rw [List.length_take,show cs2.toList.length=cs.size from hsz2,Nat.add_mul];omega
          have hlt:off+j<(cs2.toList.take (off+(xs.length+ys.length) * r.sz)).length:=by rw [hlen2,Nat.add_mul];omega
          rw [zK hlt,← List.getElem?_eq_getElem hlt,List.getElem?_take,if_pos (by rw [hlen2] at hlt;exact hlt)]
          rw [Array.getElem?_toList]
          by_cases hjx:j<cx.length
          · rw [List.getElem?_append_left hjx] at hj
            rw [hcx.len] at hjx
            rw [hlow _ (by omega)]
            have:=hst.ext (hcxh j v hj)
            rwa [xI _ _ _ _ _ _ hb'] at this
          · rw [List.getElem?_append_right (by omega)] at hj
            have:=hmid _ v hj
            rw [hcx.len] at this hjx
            rwa [show off+xs.length * r.sz+(j - xs.length * r.sz)=off+j from by omega] at this
        refine hnext _ _ _ _ hle (pK.2 (.inr ⟨b,off,cap,by rw [List.length_append],by rw [List.length_append];exact hroom,?_,fun _=>hst.mo (k:=Sum.inl s) hL (c:=(b,off+xs.length * r.sz)) (by simp [cellsE])⟩)) hst3 ?_
        · exact ((hcx.append hcy).mono hle).refs hh
        · rw [hd]
          exact OL (fun k hk=>by simp [set1,hk]) hne (by simp [set1]) (.inr ⟨b,off,xs.length+ys.length,cap,fG (hdn d hd),rfl⟩)
      · -- in a new array
        have hr:=run_append_grow (P:=P) w T o.type E i _ hT hi hzero ⟨b,off,none⟩ xs.length cap cx (by rw [hcx.len,hsz]) (fun j u hj=>by rw [Addr.add_mid];exact hst.ext (hcxh j u hj)) ⟨WL,KR,none⟩ ys.length NI cy OM hnews (by omega) (by omega) (growslice_fits (by omega) hbytes)
        rw [hrun _ _ (by rw [hxval,KF];exact hr)]
        obtain ⟨h',hle,hst',hsl⟩:=hst.grown E d (grownCap w (xs.length+ys.length) cap E) hcx hcy (grownCap_ge w _ cap E)
        refine hnext _ h' _ _ hle (pK.2 hsl) hst' ?_
        rw [hd]
        exact Eb hne (.inr ⟨_,0,_,_,fG (hdn d hd),by simp⟩)
theorem sS {T E:TypeId} {r:Rep α} {s d:Nat} {y:Operand} {xs ys zs:List α} (hz:app xs ys=some zs) (el:zX P E r) (hT:P.underlying T=some (.slice E)) (hsd:Nat.beq s d=false) (hd:o.dst=some d)
  (ho:o.op = .call { callee:=.builtin .append,args:=#[.tmp s,y],argTypes:=#[T,T] }) (hx:bF N (.tmp s) (fV (Rep.slice r) xs)) (hy:bF N y (fV (Rep.slice r) ys)) :
  di P o N [(s,eH E r.sz)] (fV (Rep.slice r) zs) [(s,none),(d,some (eH E r.sz))]:=by
 obtain ⟨rfl,hlim⟩:=Qm hz
 exact RZ r.fr (fun i _ hby=>by have:=Nat.mul_le_mul hlim hby;unfold lim at this;omega) (by unfold lim at hlim;omega) el hT hsd hd ho hx hy
end Go.KB
namespace Go.KB
variable {P:Program} {o:Oper} {N:List (Nat×aQ)} {f:aQ} {α β:Type}
def qM (b:Nat) (E:TypeId) (r:Rep α) (xs:List α) (cap:Nat):gq where
 claims:=[(b,0)]
 ok:=fun h m=>∃ cs rest,m b=some (.cells (cs ++ rest).toArray E (0,0))∧tJ r h cs xs∧(cs ++ rest).length=cap * r.sz
 mono:=by rintro h h' m hl ⟨cs,rest,e,k,l⟩;exact ⟨cs,rest,e,k.mono hl,l⟩
 frame:=fun hm ⟨cs,rest,e,k,l⟩=>⟨cs,rest,by rw [hm (b,0) (by simp)];exact e,k,l⟩
def iC (E:TypeId) (r:Rep α) (xs:List α):eP:=fun v e=>((∃ base,v = .slice base 0 0)∧xs=[]∧e=oV)∨∃ b cap,v = .slice (some ⟨b,0,none⟩) xs.length cap∧xs.length≤cap∧e=qM b E r xs cap
def Qh (s:Nat):aQ:=⟨some s,fun _ d v=>v=d,fun _ x=>x⟩
def Zd (s off:Nat):aQ:=⟨some s,fun _ d v=>∃ b len cap,d = .slice (some ⟨b,0,none⟩) len cap∧v = .pointer (some ⟨b,off,none⟩),fun _ x=>x⟩
def mk (z:α) (m c:Int):Option (List α):=bif decide (0≤m)&&decide (m≤c)&&decide (c≤lim) then some (List.replicate m.toNat z) else none
theorem OO {z:α} {m c:Int} {xs:List α} (h:mk z m c=some xs):0≤m∧m≤c∧c≤lim∧xs=List.replicate m.toNat z:=by
 unfold mk at h
 cases hb:(decide (0≤m)&&decide (m≤c)&&decide (c≤lim)) with
 | true=>rw [hb] at h;cases h;simp at hb;exact ⟨hb.1.1,hb.1.2,hb.2,rfl⟩
 | false=>rw [hb] at h;cases h
theorem JM {n:Int} (h0:-9223372036854775808≤n) (h1:n≤9223372036854775807):IntKind.i64.wrap n=n:=IntWalk.i64_in _ ⟨h0,h1⟩
theorem run_makeSlice {T E:TypeId} {r:Rep α} {m c:Int} {k k':IntKind} (w:World) (el:zX P E r) (t:fU P E r) (hT:P.underlying T=some (.slice E)) (h0:0≤m) (h1:m≤c) (h2:c≤lim) :
  (Instr.makeSlice T (.int k m) (.int k' c)).run P w = .ok (.slice (some ⟨w.heap.size,0,none⟩) m.toNat c.toNat) (w.alloc (.cells (List.replicate c.toNat r.zc).flatten.toArray E)):=by
 obtain ⟨i,hi,hsz,hby,hzero⟩:=el.out
 have hz:(pack r.agg r.zc).cells=r.zc.toArray:=vY (r.xX ⟨fun _ _=>none,0⟩)
 have hzl:=r.len (r.xX ⟨fun _ _=>none,0⟩)
 have hl:(lim:Int)=137438953472:=rfl
 rw [hl] at h2
 have hwm:IntKind.i64.wrap m=m:=JM (by omega) (by omega)
 have hwc:IntKind.i64.wrap c=c:=JM (by omega) (by omega)
 have hb1:(i.bytes:Int) * c≤2 ^ 48:=by
  have h3:(i.bytes:Int)≤1024:=by omega
  have h4:(i.bytes:Int) * c≤1024 * c:=Int.mul_le_mul_of_nonneg_right h3 (by omega)
  omega
 have htl:(decide (c<0)||decide ((i.bytes:Int) * c > 2 ^ 48))=false:=by
  rw [Bool.or_eq_false_iff];exact ⟨by simp;omega,by simpa using hb1⟩
 unfold Instr.makeSlice
 simp only [Sem.run_bind,run_underlying hT,Result.andThen_ok,asInt,asIntOf,Sem.run_pure,typeInfo,run_program,hi,hwm,hwc]
 rw [if_neg (by rw [htl];simp;omega)]
 have hroom:(askRoom (c.toNat * i.bytes)).run P w = .ok () w:=by unfold askRoom;split <;> rfl
 simp only [Sem.run_bind,hroom,Result.andThen_ok,t.size]
 by_cases hn:c.toNat * r.sz=0
 ·have hnil:(List.replicate c.toNat r.zc).flatten=[]:=by
   apply List.eq_nil_of_length_eq_zero
   rw [List.length_flatten];simp [hzl,hn]
  simp only [hn,if_true,Sem.run_bind,Sem.run_pure,Result.andThen_ok,Array.range_zero',Array.map_empty,ET,hnil]
 ·simp only [hn,if_false,Sem.run_bind,t.zero,Sem.run_pure,Result.andThen_ok,hz,Qn,ET]
theorem Hl (r:Rep α) (m c:Nat) (hmc:m≤c):(List.replicate c r.zc).flatten=(List.replicate m r.zc).flatten ++ (List.replicate (c - m) r.zc).flatten:=by
 rw [← List.flatten_append,List.replicate_append_replicate];congr 2;omega
theorem Ux (r:Rep α) (c:Nat):(List.replicate c r.zc).flatten.length=c * r.sz:=by
 rw [List.length_flatten];simp [r.len (r.xX ⟨fun _ _=>none,0⟩)]
theorem BX {T E:TypeId} {r:Rep α} {m c:Int} {k k':IntKind} {x y:Operand} {xs:List α} {d:Nat} (hq:mk r.zero m c=some xs) (el:zX P E r) (t:fU P E r) (hT:P.underlying T=some (.slice E)) (hd:o.dst=some d) (ho:o.op = .makeSlice T x y)
  (hx:bF N x (fV (Rep.int k) m)) (hy:bF N y (fV (Rep.int k') c)):di P o N [] aQ.rD [(d,some (iC E r xs))]:=by
 obtain ⟨h0,h1,h2,rfl⟩:=OO hq
 intro κ B F L h a w hst hn _ hdn next Q hnext _
 unfold Oper.rJ
 have hrun:=run_makeSlice (k:=k) (k':=k') w el t hT h0 h1 h2
 have:(execOp a.eval o).run P w = .ok (.value (.slice (some ⟨w.heap.size,0,none⟩) m.toNat c.toNat)) (w.alloc (.cells (List.replicate c.toNat r.zc).flatten.toArray E)):=by
  simp only [execOp,ho,eF.1 (hx h a hn),eF.1 (hy h a hn),Sem.run_bind,hrun,Result.andThen_ok,Sem.run_pure]
 rw [this]
 have hmc:m.toNat≤c.toNat:=by omega
 refine hnext _ h _ (set1 L d (qM w.heap.size E r (List.replicate m.toNat r.zero) c.toNat)) (nI.refl h) trivial (hst.BI _ d _ (by simp [qM]) ?_) ?_
 ·refine ⟨(List.replicate m.toNat r.zc).flatten,(List.replicate (c.toNat - m.toNat) r.zc).flatten,?_,tJ.zeros r h _,?_⟩
  ·rw [BJ,← Hl r _ _ hmc]
  ·rw [← Hl r _ _ hmc,Ux]
 ·rw [hd]
  exact qL (.inr ⟨_,c.toNat,by rw [fG (hdn d hd),List.length_replicate],by rw [List.length_replicate];exact hmc,rfl⟩)
theorem Si {T E:TypeId} {r:Rep α} {m c:Int} {k k':IntKind} {x y:Operand} {xs:List α} {d:Nat} (hq:mk r.zero m c=some xs) (el:zX P E r) (t:fU P E r) (hT:P.underlying T=some (.slice E)) (hd:o.dst=some d) (ho:o.op = .makeSlice T x y)
  (hx:bF N x (fV (Rep.int k) m)) (hy:bF N y (fV (Rep.int k') c)):di P o N [] (fV (Rep.slice r) xs) [(d,some (eH E r.sz))]:=by
 obtain ⟨h0,h1,h2,rfl⟩:=OO hq
 intro κ B F L h a w hst hn _ hdn next Q hnext _
 unfold Oper.rJ
 have hrun:=run_makeSlice (k:=k) (k':=k') w el t hT h0 h1 h2
 have:(execOp a.eval o).run P w = .ok (.value (.slice (some ⟨w.heap.size,0,none⟩) m.toNat c.toNat)) (w.alloc (.cells (List.replicate c.toNat r.zc).flatten.toArray E)):=by
  simp only [execOp,ho,eF.1 (hx h a hn),eF.1 (hy h a hn),Sem.run_bind,hrun,Result.andThen_ok,Sem.run_pure]
 rw [this]
 have hmc:m.toNat≤c.toNat:=by omega
 obtain ⟨h',hle,hst',hsl⟩:=hst.newRow (rest:=(List.replicate (c.toNat - m.toNat) r.zc).flatten) E d c.toNat (tJ.zeros r h m.toNat) (by rw [← Hl r _ _ hmc,Ux]) (by rw [List.length_replicate];exact hmc)
 rw [← Hl r _ _ hmc] at hst'
 rw [List.length_replicate] at hst' hsl
 refine hnext _ h' _ _ hle (pK.2 hsl) hst' ?_
 rw [hd]
 exact qL (.inr ⟨_,0,_,_,fG (hdn d hd),by simp⟩)
theorem Ac {s:Nat} (ho:o.op = .move (.tmp s)):di P o N [] (Qh s) [] :=
 di.qG fun h a w _ _=>⟨a.gt s,by simp [execOp,ho,Act.eval,Act.gt],rfl⟩
theorem Vp {T E E':TypeId} {r:Rep α} {s:Nat} {x:Operand} {xs:List α} (hT:P.underlying T=some (.slice E')) (ho:o.op = .call { callee:=.builtin .len,args:=#[x],argTypes:=#[T] }) (hx:bF N x (Qh s)) :
  di P o N [(s,iC E r xs)] (fV (Rep.int .i64) (xs.length:Int)) []:=by
 intro κ B F L h a w hst hn hk _ next Q hnext _
 obtain ⟨e,_,hq⟩:=hk.1
 have hx':a.eval x=a.gt s:=hx h a hn
 have:(execOp a.eval o).run P w = .ok (.value (.int .i64 (xs.length:Int))) w:=by
  rcases hq with ⟨⟨base,hv⟩,rfl,_⟩ | ⟨b,cap,hv,_,_⟩
  ·have hv':a.gt s=_:=hv
   simp [execOp,ho,resolve,invoke,builtin,Builtin.len_,hx',hv',run_underlying hT,goInt]
  ·have hv':a.gt s=_:=hv
   simp [execOp,ho,resolve,invoke,builtin,Builtin.len_,hx',hv',run_underlying hT,goInt]
 unfold Oper.rJ
 rw [this]
 exact hnext _ h w L (nI.refl h) (eF.2 rfl) hst nJ
theorem iR {xs:List α} {n:Int} {y:α} (h:idx xs n=some y):0≤n∧n.toNat<xs.length∧xs[n.toNat]? = some y:=by
 unfold idx at h
 split at h
 ·cases h
 ·rename_i hn
  exact ⟨by omega,(List.getElem?_eq_some_iff.1 h).1,h⟩
theorem BZ {T E:TypeId} {r:Rep α} {s:Nat} {k:IntKind} {x i:Operand} {xs:List α} {n:Int} {y:α} (hq:idx xs n=some y) (t:fU P E r) (hT:P.underlying T=some (.slice E)) (ho:o.op = .indexAddr T x i) (hx:bF N x (Qh s)) (hi:bF N i (fV (Rep.int k) n)) :
  di P o N [(s,iC E r xs)] (Zd s (n.toNat * r.sz)) []:=by
 obtain ⟨h0,h1,_⟩:=iR hq
 intro κ B F L h a w hst hn hk _ next Q hnext _
 obtain ⟨e,_,⟨_,rfl,_⟩ | ⟨b,cap,hv,_,_⟩⟩:=hk.1
 ·exact absurd h1 (Nat.not_lt_zero _)
 have hx':a.eval x=a.gt s:=hx h a hn
 have hv':a.gt s=_:=hv
 unfold Oper.rJ
 have hb:0≤n∧n<xs.length:=by omega
 have:(execOp a.eval o).run P w = .ok (.value (.pointer (some ⟨b,n.toNat * r.sz,none⟩))) w:=by
  simp [execOp,ho,hx',hv',eF.1 (hi h a hn),Instr.indexAt,asIntOf,run_underlying hT,hb,t.size,Addr.add_mid]
 rw [this]
 exact hnext _ h w L (nI.refl h) ⟨b,_,cap,hv',rfl⟩ hst nJ
theorem Sj {T:TypeId} {s i off off':Nat} {x:Operand} (hf:bQ P T i off) (ho:o.op = .fieldAddr T x i) (hx:bF N x (Zd s off')):di P o N [] (Zd s (off'+off)) [] :=
 di.qG fun h a w _ q=>by
  obtain ⟨b,len,cap,hd,hv⟩:=hx h a q
  exact ⟨.pointer (some ⟨b,off'+off,none⟩),by simp [execOp,ho,hv,hf b off' w],b,len,cap,hd,rfl⟩
theorem JO {κ:Type} {B:Base} {h:H} {L:Nat→Option gq} {F:κ→Option gq} {w:World} (hst:St B h (Sum.elim L F) w) {s b cap:Nat} {E:TypeId} {r:Rep α} {xs:List α}
  (hk:L s=some (qM b E r xs cap)):∃ cs rest,w.heap[b]? = some (.cells (cs ++ rest).toArray E (0,0))∧tJ r h cs xs∧(cs ++ rest).length=cap * r.sz:=(hst.own (k:=Sum.inl s) hk).2
theorem IA {T E:TypeId} {r:Rep α} {q:Rep β} {s off m:Nat} {x:Operand} {xs:List α} {y:α} {get:α→β} {set:α→β→α} (hy:xs[m]? = some y) (l:Lens r q off get set) (t:fU P T q) (ho:o.op = .load T x) (hx:bF N x (Zd s (m * r.sz+off))) :
  di P o N [(s,iC E r xs)] (fV q (get y)) []:=by
 intro κ B F L h a w hst hn hk _ next Q hnext _
 obtain ⟨b,len,cap,hd,hv⟩:=hx h a hn
 have hd':a.gt s=_:=hd
 obtain ⟨e,hL,⟨_,rfl,_⟩ | ⟨b',cap',hv',hc,rfl⟩⟩:=hk.1
 ·simp at hy
 rw [hd'] at hv';cases hv'
 obtain ⟨cs,rest,hb,hr,_⟩:=JO hst hL
 obtain ⟨p,c,q',rfl,hp,hcr,_⟩:=hr.get hy
 obtain ⟨p2,c2,q2,rfl,hp2,hc2,_⟩:=l h c y hcr
 unfold Oper.rJ
 have hrun:=uP (b:=b) (off:=m * r.sz+off) (w:=w) t (q.len hc2) (fun j v hj=>by
  rw [xI _ _ _ _ _ _ hb]
  have hjl:=(List.getElem?_eq_some_iff.1 hj).1
  simp only [List.getElem?_toArray]
  rw [show p ++ (p2 ++ c2 ++ q2) ++ q' ++ rest=(p ++ p2) ++ (c2 ++ (q2 ++ q' ++ rest)) by simp,List.getElem?_append_right (by simp;omega)]
  rw [show m * r.sz+off+j - (p ++ p2).length=j by simp;omega,List.getElem?_append_left hjl];exact hj)
 have:(execOp a.eval o).run P w = .ok (.value (pack q.agg c2)) w:=by simp [execOp,ho,hv,hrun]
 rw [this]
 exact hnext _ h w L (nI.refl h) ⟨c2,hc2,rfl⟩ hst nJ
theorem DC {T E:TypeId} {r:Rep α} {q:Rep β} {s off m:Nat} {x v:Operand} {xs:List α} {y:α} {z:β} {get:α→β} {set:α→β→α} {xs':List α} (hy:xs[m]? = some y) (l:Lens r q off get set) (t:fU P T q) (hd:o.dst=none) (ho:o.op = .store T x v)
    (hx:bF N x (Zd s (m * r.sz+off))) (hv:bF N v (fV q z)) (hs':xs'=xs.set m (set y z)):di P o N [(s,iC E r xs)] aQ.rD [(s,some (iC E r xs'))]:=by
  subst hs'
  intro κ B F L h a w hst hn hk _ next Q hnext _
  obtain ⟨b,len,cap,hdv,hxv⟩:=hx h a hn
  have hd':a.gt s=_:=hdv
  obtain ⟨e,hL,⟨_,rfl,_⟩ | ⟨b',cap',hv',hc,rfl⟩⟩:=hk.1
  · simp at hy
  rw [hd'] at hv';cases hv'
  obtain ⟨cs,rest,hb,hr,hlen⟩:=JO hst hL
  obtain ⟨c',hc',hvv⟩:=hv h a hn
  obtain ⟨p,c,q',rfl,hp,hcr,hset⟩:=hr.get hy
  obtain ⟨p2,c2,q2,rfl,hp2,hc2,Qo⟩:=l h c y hcr
  have hsh:p ++ (p2 ++ c2 ++ q2) ++ q' ++ rest=(p ++ p2) ++ c2 ++ (q2 ++ q' ++ rest):=by simp
  have hsh':(p ++ p2) ++ c' ++ (q2 ++ q' ++ rest)=(p ++ (p2 ++ c' ++ q2) ++ q') ++ rest:=by simp
  have hb0:=hb
  rw [hsh] at hb
  have hrun:=qZ t hc' hb (q.len hc2)
  unfold Oper.rJ
  have hpl:(p ++ p2).length=m * r.sz+off:=by simp;omega
  have:(execOp a.eval o).run P w = .ok .skip (w.setRow b ((p ++ p2) ++ c' ++ (q2 ++ q' ++ rest)).toArray):=by
    simp only [execOp,ho,hxv,hvv,← hpl,Sem.run_bind,hrun,Result.andThen_ok,Sem.run_pure]
  rw [this,hsh']
  obtain ⟨hcl,_⟩:=hst.own (k:=Sum.inl s) hL
  have hno:=(hcl (b,0) (by simp [qM])).2.2
  have hrel:=hset h _ _ (nI.refl h) (Qo h c' z (nI.refl h) hc')
  have hmem:=wY w b (p ++ (p2 ++ c2 ++ q2) ++ q' ++ rest).toArray ((p ++ (p2 ++ c' ++ q2) ++ q') ++ rest).toArray E hb0
  refine hnext undef h _ (set1 L s (qM b E r (xs.set m (set y z)) cap)) (nI.refl h) trivial ?_ ?_
  · refine hst.write (Sum.inl s) (e := qM b E r xs cap) hL (b := b) (lo := 0) (by simp [qM]) hmem (fun i hi => setRow_other w b i _ hi) (by simp [World.setRow]) rfl rfl rfl ?_ vg ?_
    · intro o' u hh;rw [hno o' (Nat.zero_le _)] at hh;cases hh
    · intro e' he
      rw [vk he]
      refine ⟨fun c hc=>hc,_,rest,hmem,hrel,?_⟩
      rw [← hlen]
      have:=q.len hc';have:=q.len hc2
      simp;omega
  · rw [hd]
    exact qL (.inr ⟨b,cap,by rw [List.length_set];exact hd',by rw [List.length_set];exact hc,rfl⟩)
theorem Vq {E:TypeId} {r:Rep α} {d:Nat} (hd:o.dst=some d) (ho:o.op = .assign (.const (.slice none 0 0))∨o.op = .move (.const (.slice none 0 0))):di P o N [] aQ.rD [(d,some (iC E r []))]:=by
 intro κ B F L h a w hst hn _ hdn next Q hnext _
 unfold Oper.rJ
 have:(execOp a.eval o).run P w = .ok (.value (.slice none 0 0)) w:=by rcases ho with ho | ho <;> (simp [execOp,ho];rfl)
 rw [this]
 have hst':St B h (Sum.elim (set1 L d oV) F) w:=by
  refine hst.step (Sum.inl d) (fun _=>False) (fun b hb=>hb.elim) (Nat.le_refl _) rfl rfl rfl (fun _ _ _=>rfl) (nI.refl h) (fun _ _ _ _=>rfl) ?_ vg ?_
  ·rintro b o' v (hb | hb) hv
   ·exact hb.elim
   ·rw [hst.fresh hb] at hv;cases hv
  ·intro e' he;rw [vk he];exact ⟨fun c hc=>(by cases hc),trivial⟩
 refine hnext _ h w _ (nI.refl h) trivial hst' ?_
 rw [hd]
 exact qL (.inl ⟨⟨_,fG (hdn d hd)⟩,rfl,rfl⟩)
theorem St.Sl {κ:Type} {B:Base} {h:H} {L:Nat→Option gq} {F:κ→Option gq} {w:World} (hst:St B h (Sum.elim L F) w) {r:Rep α} {cx cy:List Value} {xs ys:List α} (E:TypeId) (d cap:Nat) (hx:tJ r h cx xs) (hy:tJ r h cy ys) (hge:xs.length+ys.length≤cap) :
  St B h (Sum.elim (set1 L d (qM w.heap.size E r (xs ++ ys) cap)) F) (w.drew.alloc (.cells (cx.toArray ++ cy.toArray ++ Builtin.zeroCells (pack r.agg r.zc).cells (cap - (xs.length+ys.length))) E)):=by
 have hzc:(pack r.agg r.zc).cells.size=r.sz:=by rw [vY (r.xX h)];simp [r.len (r.xX h)]
 have hxy:=hx.append hy
 have he:(cx.toArray ++ cy.toArray ++ Builtin.zeroCells (pack r.agg r.zc).cells (cap - (xs.length+ys.length)))=((cx ++ cy) ++ (Builtin.zeroCells (pack r.agg r.zc).cells (cap - (xs.length+ys.length))).toList).toArray:=by
  apply Array.ext';simp
 rw [he]
 refine (hst.drawn (w.drawn+1) (Nat.le_succ _)).BI _ d _ (by intro c hc;simp [qM] at hc;rw [hc]) ⟨_,_,BJ _ _,hxy,?_⟩
 rw [List.length_append,hxy.len,zlen,hzc,← Nat.add_mul,List.length_append];congr 1;omega
def LC (N:List (Nat×aQ)) (x:Operand) (s:Nat) (Q:eP) (E:TypeId) (r:Rep α) (xs:List α):Prop:=∀ h a e,Dl N h a→Q (a.gt s) e→iC E r xs (a.eval x) e
theorem LC.cp {x:Operand} {s:Nat} {E:TypeId} {r:Rep α} {xs:List α} (hx:bF N x (Qh s)):LC N x s (iC E r xs) E r xs:=fun h a _ n q=>by rw [show a.eval x=a.gt s from hx h a n];exact q
theorem LD {T E:TypeId} {r:Rep α} {s d:Nat} {x y:Operand} {xs ys zs:List α} {Q:eP} (hz:app xs ys=some zs) (el:zX P E r) (hT:P.underlying T=some (.slice E)) (hsd:Nat.beq s d=false) (hd:o.dst=some d)
  (ho:o.op = .call { callee:=.builtin .append,args:=#[x,y],argTypes:=#[T,T] }) (hx:LC N x s Q E r xs) (hy:bF N y (fV (Rep.slice r) ys)) :
  di P o N [(s,Q)] aQ.rD [(s,none),(d,some (iC E r zs))]:=by
 obtain ⟨rfl,hlim⟩:=Qm hz
 obtain ⟨i,hi,hsz,hby,hzero⟩:=el.out
 have hne:s≠d:=fun x=>by rw [iQ.2 x] at hsd;cases hsd
 have hbytes:(xs.length+ys.length) * i.bytes≤140737488355328:=by
  have:=Nat.mul_le_mul hlim hby
  unfold lim at this;omega
 have h63:xs.length+ys.length≤9223372036854775807:=by unfold lim at hlim;omega
 intro κ B F L h a w hst hn hk hdn next Q hnext _
 obtain ⟨e,hL,hq⟩:=hk.1
 have hL:L s=some e:=hL
 have hq:iC E r xs (a.eval x) e:=hx h a e hn hq
 have hyv:=pK.1 (hy h a hn)
 have hrun:∀ v w',(Builtin.append_ #[T,T] o.type #[a.eval x,a.eval y]).run P w = .ok v w'→(execOp a.eval o).run P w = .ok (.value v) w':=by
  intro v w' hr
  simp only [execOp,ho,resolve,invoke,builtin,Sem.run_bind,Sem.run_pure,Result.andThen_ok,List.map_toArray,List.map_cons,List.map_nil,hr]
 unfold Oper.rJ
 by_cases hy0:ys=[]
 ·subst hy0
  obtain ⟨base',cap',hv',hc'⟩:=hyv.le
  rw [List.length_nil] at hv'
  have:∃ base cap,a.eval x = .slice base xs.length cap∧xs.length≤cap:=by
   rcases hq with ⟨⟨base,hv⟩,rfl,_⟩ | ⟨b,cap,hv,hc,_⟩
   ·exact ⟨base,0,hv,Nat.le_refl _⟩
   ·exact ⟨_,cap,hv,hc⟩
  obtain ⟨base,cap,hv,hc⟩:=this
  rw [hrun _ _ (by rw [hv,hv'];exact run_append_nothing w hT hi base xs.length cap hc base' cap'),← hv]
  refine hnext _ h w _ (nI.refl h) trivial (hst.mv s d) ?_
  rw [hd]
  exact Iz hne hL (by rw [fG (hdn d hd),List.append_nil];exact hq)
 ·have hypos:0<ys.length:=List.length_pos_iff.2 hy0
  rcases hyv with ⟨_,rfl⟩ | ⟨WL,KR,NI,KF,_,WU⟩
  ·exact absurd rfl hy0
  obtain ⟨cy,hcy,hcyh⟩:=wH.cells WU
  have hnews:∀ j u,cy[j]? = some u→w.cell? ((⟨WL,KR,none⟩:Addr).add j)=some u:=fun j u hj=>by rw [Addr.add_mid];exact hst.ext (hcyh j u hj)
  have OM:cy.length=ys.length * i.size:=by rw [hcy.len,hsz]
  rcases hq with ⟨⟨base0,hxval⟩,rfl,rfl⟩ | ⟨b,cap,hxval,hcap,rfl⟩
  ·simp only [List.length_nil,Nat.zero_add] at hbytes h63
   have hxval:a.eval x=_:=hxval
   cases base0 with
   | some a0 =>
    have hr:=run_append_grow (P:=P) w T o.type E i _ hT hi hzero a0 0 0 [] (by simp) (fun j u hj=>by simp at hj) ⟨WL,KR,none⟩ ys.length NI cy OM hnews (by omega) (by omega) (growslice_fits (by omega) (by rw [Nat.zero_add];exact hbytes))
    rw [hrun _ _ (by rw [hxval,KF];exact hr)]
    have hst':=hst.Sl (cx:=[]) (xs:=([]:List α)) E d (grownCap w (0+ys.length) 0 E) rfl hcy (by rw [List.length_nil];exact grownCap_ge w _ 0 E)
    simp only [List.length_nil] at hst'
    refine hnext _ h _ _ (nI.refl h) trivial hst' ?_
    rw [hd]
    exact Eb hne (.inr ⟨_,_,by rw [fG (hdn d hd),List.nil_append,Nat.zero_add],by have:=grownCap_ge w (0+ys.length) 0 E;simp at this ⊢;omega,by simp⟩)
   | none =>
   have hr:=run_append_nil (P:=P) w T o.type E i _ hT hi hzero ⟨WL,KR,none⟩ ys.length NI cy OM hnews hypos (by omega) (by omega)
   rw [hrun _ _ (by rw [hxval,KF];exact hr)]
   have hst':=hst.Sl (cx:=[]) (xs:=([]:List α)) E d (grownCap w ys.length 0 E) rfl hcy (by rw [List.length_nil,Nat.zero_add];exact grownCap_ge w ys.length 0 E)
   simp only [List.length_nil,Nat.zero_add] at hst'
   have he:(#[]:Array Value) ++ cy.toArray=cy.toArray:=by simp
   rw [show ([]:List Value).toArray = #[] from rfl,he] at hst'
   refine hnext _ h _ _ (nI.refl h) trivial hst' ?_
   rw [hd]
   exact Eb hne (.inr ⟨_,_,fG (hdn d hd),by simp;exact grownCap_ge w ys.length 0 E,by simp⟩)
  ·have hxval:a.eval x=_:=hxval
   obtain ⟨cs,rest,hb,hr0,hlen⟩:=JO hst hL
   by_cases hroom:xs.length+ys.length≤cap
   ·have hcl0:=hr0.len
    have hcyl':=hcy.len
    have hmul:(xs.length+ys.length) * r.sz≤cap * r.sz:=Nat.mul_le_mul_right _ hroom
    rw [Nat.add_mul] at hmul
    have hlen':cs.length+rest.length=cap * r.sz:=by rw [← hlen,List.length_append]
    have hr:=Dz (P:=P) (ty:=o.type) w hT hi b 0 xs.length cap (cs ++ rest).toArray hb ⟨WL,KR,none⟩ ys.length NI cy OM hnews hcy.flat hroom (by rw [hsz];simp;omega)
    rw [hsz,Nat.zero_add] at hr
    have hnew:((cs ++ rest).toArray.toList.take (xs.length * r.sz) ++ cy ++ (cs ++ rest).toArray.toList.drop (xs.length * r.sz+cy.length))=(cs ++ cy) ++ rest.drop cy.length:=by
     rw [← hcl0]
     simp [List.drop_append]
    rw [hnew] at hr
    rw [hrun _ _ (by rw [hxval,KF];exact hr)]
    obtain ⟨hcl,_⟩:=hst.own (k:=Sum.inl s) hL
    have hno:=(hcl (b,0) (by simp [qM])).2.2
    have hmem:=wY w b (cs ++ rest).toArray ((cs ++ cy) ++ rest.drop cy.length).toArray E hb
    have hst1:St B h (Sum.elim (set1 L s (qM b E r (xs ++ ys) cap)) F) (w.setRow b ((cs ++ cy) ++ rest.drop cy.length).toArray):=by
     refine hst.write (Sum.inl s) (e:=qM b E r xs cap) hL (b:=b) (lo:=0) (by simp [qM]) hmem (fun i hi=>setRow_other w b i _ hi) (by simp [World.setRow]) rfl rfl rfl ?_ vg ?_
     ·intro o' u hh;rw [hno o' (Nat.zero_le _)] at hh;cases hh
     ·intro e' he
      rw [vk he]
      refine ⟨fun c hc=>hc,_,_,hmem,hr0.append hcy,?_⟩
      simp;omega
    refine hnext _ h _ _ (nI.refl h) trivial (hst1.mv s d) ?_
    rw [hd]
    exact OL (fun k hk=>by simp [set1,hk]) hne (by simp [set1]) (.inr ⟨b,cap,by rw [fG (hdn d hd),List.length_append],by rw [List.length_append];exact hroom,rfl⟩)
   ·have hcl0:=hr0.len
    have hr:=run_append_grow (P:=P) w T o.type E i _ hT hi hzero ⟨b,0,none⟩ xs.length cap cs (by rw [hr0.len,hsz]) (fun j u hj=>by
     rw [Addr.add_mid,Nat.zero_add,xI _ _ _ _ _ _ hb]
     have hjl:=(List.getElem?_eq_some_iff.1 hj).1
     simp only [List.getElem?_toArray]
     rw [List.getElem?_append_left hjl];exact hj) ⟨WL,KR,none⟩ ys.length NI cy OM hnews (by omega) (by omega) (growslice_fits (by omega) hbytes)
    rw [hrun _ _ (by rw [hxval,KF];exact hr)]
    have hst':=hst.Sl E d (grownCap w (xs.length+ys.length) cap E) hr0 hcy (grownCap_ge w _ cap E)
    refine hnext _ h _ _ (nI.refl h) trivial hst' ?_
    rw [hd]
    exact Eb hne (.inr ⟨_,_,by rw [fG (hdn d hd),List.length_append],by rw [List.length_append];exact grownCap_ge w _ cap E,rfl⟩)
theorem OQ {T E:TypeId} {r:Rep α} {s d:Nat} {x y:Operand} {xs ys zs:List α} (hz:app xs ys=some zs) (el:zX P E r) (hT:P.underlying T=some (.slice E)) (hsd:Nat.beq s d=false) (hd:o.dst=some d)
  (ho:o.op = .call { callee:=.builtin .append,args:=#[x,y],argTypes:=#[T,T] }) (hx:bF N x (Qh s)) (hy:bF N y (fV (Rep.slice r) ys)) :
  di P o N [(s,iC E r xs)] aQ.rD [(s,none),(d,some (iC E r zs))]:=LD hz el hT hsd hd ho (LC.cp hx) hy
theorem At.freeze {κ:Type} {B:Base} {h0:H} {Γ:Ctx} {Λ:Own} {F:κ→Option gq} {n:Nat} {a:Act} {w:World} {E:TypeId} {r:Rep α} {xs:List α} (s:Nat) (hAt:At B h0 Γ Λ F n a w) (hs:Λ s=some (iC E r xs)) :
    At B h0 (fun k=>bif Nat.beq s k then fV (Rep.slice r) xs else Γ k) (fun k=>bif Nat.beq s k then none else Λ k) F n a w:=by
  obtain ⟨h,L,hle,hst,vN,oO,hsz,hdf⟩:=hAt
  obtain ⟨e,hL,⟨⟨base,hv⟩,rfl,rfl⟩ | ⟨b,cap,hv,hc,rfl⟩⟩:=vN s _ hs
  · refine ⟨h, L, hle, hst, fun k q hq => ?_, fun k => ?_, hsz, hdf⟩
    · cases hk:Nat.beq s k with
      | true=>simp only [hk,cond_true] at hq;cases hq
      | false=>simp only [hk,cond_false] at hq;exact vN k q hq
    · cases hk:Nat.beq s k with
      | true =>
        rw [iQ] at hk;subst hk
        show aQ.at (bif Nat.beq s s then _ else _) _ _ _
        rw [iQ.2 rfl]
        exact pK.2 (.inl ⟨⟨base,hv⟩,rfl⟩)
      | false =>
        show aQ.at (bif Nat.beq s k then _ else _) _ _ _
        rw [hk];exact oO k
  obtain ⟨_,cs,rest,hb,hr,hlen⟩:=hst.own (k:=Sum.inl s) hL
  have hb':w.heap[b]? = some (.cells (cs ++ rest).toArray E (0,0)):=hb
  obtain ⟨hl2,hst2⟩:=hst.freeze (Sum.inl s) (e:=qM b E r xs cap) hL (b:=b) (lo:=0) (by simp [qM]) hb' cs.length (by simp) (L':=Sum.elim (fun k=>if k=s then none else L k) F) (by
    intro k' e' hne he
    cases k' with
    | inr k=>exact he
    | inl k =>
      have:k≠s:=fun x=>hne (by rw [x])
      simpa [this] using he) (fun e' he=>by simp at he)
  have htk:(cs ++ rest).toArray.toList.take cs.length=cs:=by simp
  rw [htk] at hl2 hst2
  refine ⟨_,_,hle.trans hl2,hst2,?_,?_,hsz,hdf⟩
  · intro k q hq
    cases hk:Nat.beq s k with
    | true=>simp only [hk,cond_true] at hq;cases hq
    | false =>
      simp only [hk,cond_false] at hq
      obtain ⟨e,he,hqe⟩:=vN k q hq
      have:k≠s:=fun x=>by rw [iQ.2 x.symm] at hk;cases hk
      exact ⟨e,by simp [this,he],hqe⟩
  · intro k
    cases hk:Nat.beq s k with
    | true =>
      rw [iQ] at hk;subst hk
      show aQ.at (bif Nat.beq s s then _ else _) _ _ _
      rw [iQ.2 rfl]
      refine pK.2 (.inr ⟨b,0,cap,hv,hc,(hr.mono hl2).refs fun j v hj=>?_,fun _=>hst.mo (k:=Sum.inl s) hL (c:=(b,0)) (by simp [qM])⟩)
      have hjl:=(List.getElem?_eq_some_iff.1 hj).1
      rw [Nat.zero_add,zK hjl,← hj,List.getElem?_eq_getElem hjl]
    | false =>
      show aQ.at (bif Nat.beq s k then _ else _) _ _ _
      rw [hk]
      exact (Γ k).mono hl2 (oO k)

def WV (xs:List α) (lo hi:Int):Option (List α):=bif decide (0≤lo)&&decide (lo≤hi)&&decide (hi≤xs.length) then some ((xs.take hi.toNat).drop lo.toNat) else none
theorem WW {xs ys:List α} {lo hi:Int} (h:WV xs lo hi=some ys):0≤lo∧lo≤hi∧hi≤xs.length∧ys=(xs.take hi.toNat).drop lo.toNat:=by
 unfold WV at h
 cases hb:(decide (0≤lo)&&decide (lo≤hi)&&decide (hi≤xs.length)) with
 | true=>rw [hb] at h;cases h;simp at hb;exact ⟨hb.1.1,hb.1.2,hb.2,rfl⟩
 | false=>rw [hb] at h;cases h
def NY (N:List (Nat×aQ)) (dflt:Int):Option Operand→Int→Prop
 | none,n=>n=dflt
 | some x,n=>∃ k,bF N x (fV (Rep.int k) n)
theorem bndN {N:List (Nat×aQ)} {d:Int}:NY N d none d:=rfl
theorem bndS {N:List (Nat×aQ)} {d n:Int} {k:IntKind} {x:Operand} (h:bF N x (fV (Rep.int k) n)):NY N d (some x) n:=⟨k,h⟩
theorem Vr {T E:TypeId} {r:Rep α} {h:H} {a:Act} {w:World} {lo hi:Option Operand} {l m:Int} {len cap:Nat} {base:Option Addr} (hT:P.underlying T=some (.slice E)) (t:fU P E r) (hn:Dl N h a) (hl:NY N 0 lo l) (hm:NY N len hi m)
  (h0:0≤l) (h1:l≤m) (h2:m≤len) (hc:len≤cap) :
  (Instr.sliceAt T (.slice base len cap) (lo.map a.eval) (hi.map a.eval) none).run P w = .ok (.slice (if cap=l.toNat then base else base.map (·.add (l.toNat * r.sz))) (m.toNat - l.toNat) (cap - l.toNat)) w:=by
 have hmc:0≤m∧m≤(cap:Int):=by omega
 have hlm:0≤l∧l≤((m.toNat:Nat):Int):=by omega
 have hll:0≤l∧l≤(len:Int):=by omega
 cases lo with
 | none =>
  have hl:l=0:=hl
  subst hl
  cases hi with
  | none =>
   have hm:m=len:=hm
   subst hm
   simp [Instr.sliceAt,Instr.slice,run_underlying hT,Instr.sliceBounds,t.size]
  | some y =>
   obtain ⟨k,hy⟩:=hm
   simp [Instr.sliceAt,Instr.slice,run_underlying hT,Instr.sliceBounds,Instr.sliceBound,asIntOf,eF.1 (hy h a hn),hmc,t.size]
 | some x =>
  obtain ⟨k',hx⟩:=hl
  cases hi with
  | none =>
   have hm:m=len:=hm
   subst hm
   simp [Instr.sliceAt,Instr.slice,run_underlying hT,Instr.sliceBounds,Instr.sliceBound,asIntOf,eF.1 (hx h a hn),hll,t.size]
  | some y =>
   obtain ⟨k,hy⟩:=hm
   simp [Instr.sliceAt,Instr.slice,run_underlying hT,Instr.sliceBounds,Instr.sliceBound,asIntOf,eF.1 (hy h a hn),eF.1 (hx h a hn),hmc,hlm,t.size];omega
theorem wH.cut {r:Rep α} {h:H} {v:Value} {xs:List α} {base:Option Addr} {cap:Nat} {l m:Nat} (k:wH r h v xs) (hv:v = .slice base xs.length cap) (h1:l≤m) (h2:m≤xs.length) :
  wH r h (.slice (if cap=l then base else base.map (·.add (l * r.sz))) (m - l) (cap - l)) ((xs.take m).drop l):=by
 have hlen:((xs.take m).drop l).length=m - l:=by rw [List.length_drop,List.length_take];omega
 rcases k with ⟨⟨base',rfl⟩,rfl⟩ | ⟨b,off,cap',rfl,hc,hr,hm⟩
 ·cases hv
  have:m=0:=by simpa using h2
  subst this
  have:l=0:=by omega
  subst this
  exact .inl ⟨⟨base,by simp⟩,by simp⟩
 ·cases hv
  refine .inr ⟨b,if cap=l then off else off+l * r.sz,cap - l,?_,?_,?_,hm⟩
  ·rw [hlen]
   split
   ·rfl
   ·simp [Addr.add_mid]
  ·rw [hlen];omega
  ·intro i x hx
   rw [List.getElem?_drop,List.getElem?_take] at hx
   split at hx
   ·rename_i hlt
    have:=hr _ _ hx
    rw [if_neg (by omega)]
    rwa [show off+l * r.sz+i * r.sz=off+(l+i) * r.sz by rw [Nat.add_mul,Nat.add_assoc]]
   ·cases hx
theorem ok_slice {T E:TypeId} {r:Rep α} {x:Operand} {lo hi:Option Operand} {xs ys:List α} {l m:Int} (hq:WV xs l m=some ys) (t:fU P E r) (hT:P.underlying T=some (.slice E)) (ho:o.op = .slice T x lo hi none)
  (hx:bF N x (fV (Rep.slice r) xs)) (hl:NY N 0 lo l) (hm:NY N xs.length hi m):di P o N [] (fV (Rep.slice r) ys) [] :=
 di.qG fun h a w _ n=>by
  obtain ⟨h0,h1,h2,rfl⟩:=WW hq
  have k:=pK.1 (hx h a n)
  obtain ⟨base,cap,hv,hc⟩:=k.le
  have hrun:=Vr (w:=w) (base:=base) hT t n hl hm h0 h1 h2 hc
  refine ⟨_,by simp only [execOp,ho,hv,Option.map_none,Sem.run_bind,hrun,Result.andThen_ok,Sem.run_pure],pK.2 (k.cut hv (by omega) (by omega))⟩
end Go.KB
namespace Go.KB
variable {P:Program} {o:Oper} {N:List (Nat×aQ)} {f:aQ} {α β:Type}
theorem size_mk (s:Str):ByteArray.size ⟨s.toArray⟩=s.length:=rfl
theorem NZ {T:TypeId} {k:IntKind} {x i:Operand} {s:Str} {n:Int} {c:UInt8} (hq:idx s n=some c) (hT:P.underlying T=some .string) (ho:o.op = .index T x i) (hx:bF N x (fV Rep.str s)) (hi:bF N i (fV (Rep.int k) n)) :
  di P o N [] (fV (Rep.int .u8) (c.toNat:Int)) [] :=
 di.qG fun h a w _ q=>by
  obtain ⟨h0,h1,h2⟩:=iR hq
  refine ⟨.int .u8 (c.toNat:Int),?_,eF.2 rfl⟩
  have hc:(⟨s.toArray⟩:ByteArray)[n.toNat]? = some c:=by
   have:n.toNat<(⟨s.toArray⟩:ByteArray).size:=h1
   rw [getElem?_pos (⟨s.toArray⟩:ByteArray) n.toNat this]
   have e:s[n.toNat]? = some s[n.toNat]:=List.getElem?_eq_getElem h1
   rw [e] at h2;cases h2
   rfl
  simp [execOp,ho,wZ.1 (hx h a q),eF.1 (hi h a q),Instr.index,asIntOf,run_underlying hT,h0,hc]
def yR (op:BinOp) (a b:Str):Bool :=
 match op with
 | .eql=>a == b | .neq=>!(a == b) | .lss=>Op.bytesLess a b | .leq=>(Op.bytesLess a b||a == b) | .gtr=>!(Op.bytesLess a b||a == b) | _=>!(Op.bytesLess a b)
theorem uj {op:BinOp} {T T':TypeId} {x y:Operand} {s t:Str} {b:Bool} (hop:op = .eql∨op = .neq∨op = .lss∨op = .leq∨op = .gtr∨op = .geq) (hb:yR op s t=b) (ho:o.op = .binOp op T x y T')
  (hx:bF N x (fV Rep.str s)) (hy:bF N y (fV Rep.str t)):di P o N [] (fV Rep.bool b) [] :=
 di.qG fun h a w _ q=>by
  subst hb
  refine ⟨.bool (yR op s t),?_,qF.2 rfl⟩
  rcases hop with rfl | rfl | rfl | rfl | rfl | rfl <;>
   simp [execOp,ho,wZ.1 (hx h a q),wZ.1 (hy h a q),binOp,Op.stringOp,eqGuard,yR]
def OT (a b:Str):Option Str:=bif Nat.ble (a.length+b.length) lim then some (a ++ b) else none
theorem Jb {T T':TypeId} {x y:Operand} {s t u:Str} (hq:OT s t=some u) (ho:o.op = .binOp .add T x y T') (hx:bF N x (fV Rep.str s)) (hy:bF N y (fV Rep.str t)):di P o N [] (fV Rep.str u) [] :=
 di.qG fun h a w _ q=>by
  unfold OT at hq
  cases hb:Nat.ble (s.length+t.length) lim with
  | false=>rw [hb] at hq;cases hq
  | true =>
   rw [hb] at hq;cases hq
   have hl:=Nat.le_of_ble_eq_true hb
   refine ⟨.string ⟨(s ++ t).toArray⟩,?_,wZ.2 rfl⟩
   have hle:¬ (((ByteArray.size ⟨s.toArray⟩+ByteArray.size ⟨t.toArray⟩:Nat):Int) > IntKind.i64.max):=by
    rw [size_mk,size_mk]
    have:IntKind.i64.max=9223372036854775807:=rfl
    unfold lim at hl;omega
   have he:(⟨s.toArray⟩:ByteArray) ++ ⟨t.toArray⟩=⟨(s ++ t).toArray⟩:=by
    apply ByteArray.ext
    rw [ByteArray.data_append]
    simp
   simp only [execOp,ho,wZ.1 (hx h a q),wZ.1 (hy h a q),binOp,Op.stringOp,eqGuard_add,Sem.run_bind,Sem.run_pure,Result.andThen_ok]
   rw [if_neg hle,he]
   rfl
end Go.KB
namespace Go.KB
variable {ρ:Option Nat} {P:Program} {κ:Type} {B:Base} {h0:H} {Γ:Ctx} {Λ:Own} {F:κ→Option gq} {n:Nat} {a:Act} {w:World} {Q:Exit→Act→World→Prop}
theorem wp_mono {c:Code} {Q':Exit→Act→World→Prop} (h:c.rJ ρ P Q a w) (hq:∀ e a w,Q e a w→Q' e a w):c.rJ ρ P Q' a w:=wpIn_mono h hq
theorem wp_skip (h:Q .normal a w):Code.skip.rJ ρ P Q a w:=wpIn_skip h
theorem wp_exit {id:Nat} (h:Q (.exit id) a w):(Code.exit id).rJ ρ P Q a w:=wpIn_exit h
theorem wp_ret (h:Q .ret a w):Code.ret.rJ ρ P Q a w:=wpIn_ret h
theorem wp_seq {x y:Code} (h:x.rJ ρ P (Exit.then (y.rJ ρ P Q) Q) a w):(Code.seq x y).rJ ρ P Q a w:=wpIn_seq h
theorem wp_block {id:Nat} {c:Code} (h:c.rJ ρ P (Exit.inBlock id Q) a w):(Code.block id c).rJ ρ P Q a w:=wpIn_block h
theorem wp_cond_split {c:Operand} {x y:Code} {t:Bool} (hc:a.eval c = .bool t) (ht:t=true→x.rJ ρ P Q a w) (hf:t=false→y.rJ ρ P Q a w):(Code.cond c x y).rJ ρ P Q a w:=wpIn_cond_split hc ht hf
def IdleD (P:Program) (d:Deferred) (w:World):Prop :=
 ∃ fv cap f args,d.target = .fn fv cap∧(invoke d.target d.args).run P w = .ok (.enter f args) w∧CallsDIn (LG none) 0 P f args .returning w fun e u' w'=>e = .returned (.tuple #[])∧u' = .returning∧w'=w
def KG (P:Program) (fn:Func) (R:Ending→World→Prop):Exit→Act→World→Prop
 | .normal,a,w | .ret,a,w=>(a.defers=[]∧∃ v,(results fn a.tmps).run P w = .ok v w∧R (.returned v) w) ∨
   (∃ D w',a.defers=[{ target:=.collected D,args:=#[] }]∧(Instr.takeDeferred D).run P w = .ok [] w'∧∃ v,(results fn a.tmps).run P w' = .ok v w'∧R (.returned v) w') ∨
   ∃ d,a.defers=[d]∧IdleD P d w∧∃ v,(results fn a.tmps).run P w = .ok v w∧R (.returned v) w
 | _,_,_=>False
theorem KG.mono {fn:Func} {R R':Ending→World→Prop} (hR:∀ e w,R e w→R' e w) {e:Exit} {a:Act} {w:World} (h:KG P fn R e a w):KG P fn R' e a w:=by
  cases e <;> first
    | exact h.elim
    | (rcases h with ⟨h1,v,h2,h3⟩ | ⟨D,w',h1,h2,v,h3,h4⟩ | ⟨d,h1,h2,v,h3,h4⟩
       · exact .inl ⟨h1,v,h2,hR _ _ h3⟩
       · exact .inr (.inl ⟨D,w',h1,h2,v,h3,hR _ _ h4⟩)
       · exact .inr (.inr ⟨d,h1,h2,v,h3,hR _ _ h4⟩))
theorem BK {f:FuncId} {fn:Func} {c:Code} {args:Array Value} {w:World} {R R':Ending→World→Prop} {X:Prop} (hX:X) (hf:P.funcs[f]? = some fn) (hb:fn.body=some c)
    (h:c.rJ none P (fun e a w=>X→KG P fn R' e a w) { tmps:=args ++ Array.replicate (fn.ntmps - args.size) undef,defers:=[] } w) (hR:∀ e w,R' e w→R e w):Calls P f args w R:=by
  refine N7.1 (callsIn_of_wp_marks (F:=LG none) (n:=0) hf hb trivial (wpIn_mono h ?_))
  intro e a w hq
  have hq:=(hq hX).mono hR
  cases e <;> first
    | exact hq.elim
    | (rcases hq with ⟨h1,v,h2,h3⟩ | ⟨D,w',h1,h2,v,h3,h4⟩ | ⟨d,h1,⟨fv,cap,f',args',h5,h6,h7⟩,v,h2,h3⟩
       · simp only [bodyPostM];rw [h1];exact ⟨v,h2,h3⟩
       · simp only [bodyPostM];rw [h1];exact ⟨by simp,.inl ⟨D,w',rfl,h2,v,h3,h4⟩⟩
       · simp only [bodyPostM];rw [h1]
         refine ⟨by simp,.inr ⟨fun x=>absurd x (by simp [LG]),fv,cap,f',args',h5,h6,fun _ _=>trivial,h7.mono ?_⟩⟩
         rintro e u' w' ⟨rfl,rfl,rfl⟩
         exact ⟨v,h2,h3⟩)

theorem At.less {Γ':Ctx} {Λ':Own} (x:At B h0 Γ Λ F n a w) (hG:∀ s,Γ' s=Γ s∨Γ' s=aQ.rD) (hO:∀ s,Λ' s=Λ s∨Λ' s=none):At B h0 Γ' Λ' F n a w:=by
 obtain ⟨h,L,hle,hst,vN,oO,r⟩:=x
 refine ⟨h,L,hle,hst,?_,?_,r⟩
 ·intro s q hq
  rcases hO s with h1 | h1 <;> rw [h1] at hq
  ·exact vN s q hq
  ·cases hq
 ·intro s
  rcases hG s with h1 | h1 <;> rw [h1]
  ·exact oO s
  ·exact trivial
def Gp (Γ:Ctx):List Nat→List (Nat×aQ)
 | []=>[]
 | s :: r=>(s,Γ s) :: Gp Γ r
def FY (Λ:Own):List Nat→List (Nat×eP)
 | []=>[]
 | s :: r=>match Λ s with | some e=>(s,e) :: FY Λ r | none=>FY Λ r
theorem WX (Γ:Ctx) (l:List Nat) (s:Nat):Sm (Gp Γ l) s=Γ s∨Sm (Gp Γ l) s=aQ.rD:=by
 induction l with
 | nil=>exact .inr rfl
 | cons x r ih =>
  simp only [Sm,Gp,Qi] at ih ⊢
  cases hb:Nat.beq x s with
  | true=>rw [iQ] at hb;subst hb;exact .inl rfl
  | false=>exact ih
theorem WY (Λ:Own) (l:List Nat) (s:Nat):NJ (FY Λ l) s=Λ s∨NJ (FY Λ l) s=none:=by
 induction l with
 | nil=>exact .inr rfl
 | cons x r ih =>
  simp only [NJ,FY] at ih ⊢
  cases hl:Λ x with
  | none=>exact ih
  | some e =>
   simp only [Za]
   cases hb:Nat.beq x s with
   | true=>rw [iQ] at hb;subst hb;exact .inl hl.symm
   | false=>exact ih
theorem At.pick (x:At B h0 Γ Λ F n a w) (l m:List Nat):At B h0 (Sm (Gp Γ l)) (NJ (FY Λ m)) F n a w:=x.less (WX Γ l) (WY Λ m)
theorem At.fact (x:At B h0 Γ Λ F n a w) (s:Nat):∃ h,nI h0 h∧(Γ s).at h a s:=let ⟨h,_,hl,_,_,hs,_⟩:=x;⟨h,hl,hs s⟩
theorem At.bool {b:Bool} (x:At B h0 Γ Λ F n a w) (s:Nat) (hs:Γ s=fV Rep.bool b):a.eval (.tmp s) = .bool b:=by
 obtain ⟨h,_,hf⟩:=x.fact s
 rw [hs] at hf
 exact qF.1 hf
theorem aZ {s:Nat} {b:Bool} {x y:Code} (hAt:At B h0 Γ Λ F n a w) (hs:Γ s=fV Rep.bool b) (ht:b=true→x.rJ ρ P Q a w) (hf:b=false→y.rJ ρ P Q a w):(Code.cond (.tmp s) x y).rJ ρ P Q a w :=
 wp_cond_split (hAt.bool s hs) ht hf
def bM {S O:Type} (f:S→Option (S ⊕ O)):Nat→S→Option O
 | 0,_=>none
 | n+1,s=>match f s with
  | none=>none
  | some (.inl s')=>bM f n s'
  | some (.inr o)=>some o
theorem bI {S O:Type} {f:S→Option (S ⊕ O)} {body:Code} (Inv:S→Act→World→Prop) (Post:O→Exit→Act→World→Prop)
  (hb:∀ s r a w,f s=some r→Inv s a w→body.rJ ρ P (fun e a' w'=>match r with | .inl s'=>e = .normal∧Inv s' a' w' | .inr o=>e ≠ .normal∧Post o e a' w') a w) :
  ∀ (N:Nat) (s:S) (o:O) (a:Act) (w:World),bM f N s=some o→Inv s a w→(Code.loop body).rJ ρ P (Post o) a w:=by
 intro N s o a w hl hI b k cs hro hbf hrm
 have key:∀ N s a w,bM f N s=some o→Inv s a w →
   ∃ e a' w',Post o e a' w'∧ArrivesIn (Machine.fenced P (LG ρ)) P (lone (b.atR a (.code body :: .inLoop body :: k)) cs w) b k cs e a' w':=by
  intro N
  induction N with
  | zero=>intro s a w h;cases h
  | succ N ih =>
   intro s a w h hI
   simp only [bM] at h
   cases hr:f s with
   | none=>rw [hr] at h;cases h
   | some r =>
    rw [hr] at h
    obtain ⟨e,a₁,w₁,hq,harr⟩:=hb s r a w hr hI b (.inLoop body :: k) cs hro hbf hrm
    cases r with
    | inl s' =>
     obtain ⟨rfl,hI'⟩:=hq
     obtain ⟨e₂,a₂,w₂,hq₂,harr₂⟩:=ih s' a₁ w₁ h hI'
     exact ⟨e₂,a₂,w₂,hq₂,.of_steps (StepsIn.trans harr (.one (fenced_calm hbf hrm rfl) stepR_inLoop)) harr₂⟩
    | inr o' =>
     cases h
     obtain ⟨hne,hp⟩:=hq
     exact ⟨e,a₁,w₁,hp,.pass (x:=.inLoop body) rfl (fun _ _=>.inl hne) harr⟩
 obtain ⟨e,a',w',hq,harr⟩:=key N s a w hl hI
 exact ⟨e,a',w',hq,.of_steps (.one (fenced_calm hbf hrm rfl) stepR_loop) harr⟩
theorem aJ {X Y:Type} {m:Option X} {k:X→Option Y} {r:Y} (h:m.bind k=some r):∃ x,m=some x∧k x=some r:=by
 cases m with
 | none=>cases h
 | some x=>exact ⟨x,rfl,h⟩
theorem bn {X:Type} {b:Bool} {x y r:X} (hb:b=true) (h:(bif b then x else y)=r):x=r:=by subst hb;exact h
theorem bT {X:Type} {b:Bool} {x y r:X} (hb:b=false) (h:(bif b then x else y)=r):y=r:=by subst hb;exact h
def ul:List aQ→Bool
 | []=>true
 | f :: r=>f.dep.isNone&&ul r
theorem og:∀ {l:List aQ},ul l=true→∀ g ∈ l,g.dep=none:=by
 intro l
 induction l with
 | nil=>intro _ g h;cases h
 | cons f r ih =>
  intro h g hg
  simp only [ul,Bool.and_eq_true] at h
  rcases List.mem_cons.1 hg with rfl | hg
  ·cases hx:g.dep with
   | none=>rfl
   | some d=>rw [hx] at h;cases h.1
  ·exact ih h.2 g hg
def FnOk (P:Program) (f:FuncId) (args:List aQ) (post:aQ):Prop :=
 ∀ (κ:Type) (B:Base) (L:κ→Option gq) (h:H) (w:World) (vs:List Value),St B h L w→args.length=vs.length→(∀ (i:Nat) (g:aQ) (v:Value),args[i]? = some g→vs[i]? = some v→g.p h undef v) →
  Calls P f vs.toArray w (fun e w'=>∃ v h',e = .returned v∧nI h h'∧St B h' L w'∧post.p h' undef v)
def Le (P:Program) (fn:Func) {κ:Type} (B:Base) (h0:H) (F:κ→Option gq) (post:aQ):Exit→Act→World→Prop :=
 fun e a w=>B.df=[]→KG P fn (fun e w'=>∃ v h',e = .returned v∧nI h0 h'∧St B h' F w'∧post.p h' undef v) e a w
def Ia:Nat→List aQ→List (Nat×aQ)
 | _,[]=>[]
 | i,f :: r=>(i,f) :: Ia (i+1) r
theorem Ho:∀ (l:List aQ) (i s:Nat),Qi (Ia i l) s=aQ.rD∨∃ j f,l[j]? = some f∧s=i+j∧Qi (Ia i l) s=f:=by
 intro l
 induction l with
 | nil=>intro i s;exact .inl rfl
 | cons f r ih =>
  intro i s
  simp only [Ia,Qi]
  cases hb:Nat.beq i s with
  | true=>rw [iQ] at hb;subst hb;exact .inr ⟨0,f,rfl,rfl,rfl⟩
  | false =>
   rcases ih (i+1) s with h1 | ⟨j,g,h1,h2,h3⟩
   ·exact .inl h1
   ·exact .inr ⟨j+1,g,h1,by omega,h3⟩
theorem St.Uy {h:H} (s:St B h F w):St B h (Sum.elim (fun _:Nat=>(none:Option gq)) F) w:=by
 refine ⟨s.low,s.base,fun x=>s.ext x,?_,?_,s.mark,fun x i y=>s.nf x i y⟩
 ·intro k e hk
  cases k with
  | inl k=>cases hk
  | inr k=>exact s.own hk
 ·intro k k' e e' hk hk' hne
  cases k with
  | inl k=>cases hk
  | inr k=>cases k' with
   | inl k'=>cases hk'
   | inr k'=>exact s.yH hk hk' (fun e=>hne (by rw [e]))
theorem St.right {h:H} {L:Nat→Option gq} (s:St B h (Sum.elim L F) w):St B h F w :=
 s.FX Sum.inr (fun _ _ x=>x) (fun _ _ _ _ _ _ n e=>n (Sum.inr.inj e))
theorem bY {f:FuncId} {fn:Func} {c:Code} {args:List aQ} {post:aQ} (hf:P.funcs[f]? = some fn) (hb:fn.body=some c) (hn:fn.ntmps=n) (vZ:(Nat.ble args.length n&&ul args)=true)
  (hwp:∀ (κ:Type) (B:Base) (h0:H) (F:κ→Option gq) (a:Act) (w:World),At B h0 (Sm (Ia 0 args)) (NJ []) F n a w→c.rJ none P (Le P fn B h0 F post) a w):FnOk P f args post:=by
 intro κ B L h w vs hst hl hargs
 rw [Bool.and_eq_true,Nat.ble_eq] at vZ
 obtain ⟨hlen,hdp⟩:=vZ
 have BL:=og hdp
 refine BK rfl hf hb (hwp _ B.e h L _ w ⟨h,fun _=>none,nI.refl h,(St.Uy hst).toE,fun s q hq=>(by cases hq),?_,?_,rfl⟩) (fun _ _ ⟨v,h',he,hl,hs,hp⟩=>⟨v,h',he,hl,hs.ofE,hp⟩)
 ·intro s
  rcases Ho args 0 s with h1 | ⟨j,g,h1,h2,h3⟩
  ·show (Qi (Ia 0 args) s).at _ _ _;rw [h1];exact trivial
  ·show (Qi (Ia 0 args) s).at _ _ _;rw [h3]
   have hj:=(List.getElem?_eq_some_iff.1 h1).1
   have hv:vs[j]? = some vs[j]:=List.getElem?_eq_getElem (by omega)
   have:=hargs j g _ h1 hv
   unfold aQ.at aQ.dv
   rw [BL g (List.mem_of_getElem? h1)]
   have he:Act.gt { tmps:=vs.toArray ++ Array.replicate (fn.ntmps - vs.toArray.size) undef,defers:=[] } s=vs[j]:=by
    rw [h2,Nat.zero_add]
    simp only [Act.gt,Array.getD_eq_getD_getElem?]
    rw [Array.getElem?_append_left (by simp;omega)]
    simp [hv]
   rw [he];exact this
 ·simp;omega
def fT0:aQ:=⟨none,fun _ _ v=>v = .tuple #[],fun _ x=>x⟩
def KT (f g:aQ):aQ:=⟨none,fun h _ v=>∃ x y,v = .tuple #[x,y]∧f.p h undef x∧g.p h undef y,fun hl ⟨x,y,e,a,b⟩=>⟨x,y,e,f.mono hl a,g.mono hl b⟩⟩
def fT3 (f g i:aQ):aQ:=⟨none,fun h _ v=>∃ x y z,v = .tuple #[x,y,z]∧f.p h undef x∧g.p h undef y∧i.p h undef z,fun hl ⟨x,y,z,e,a,b,c⟩=>⟨x,y,z,e,f.mono hl a,g.mono hl b,i.mono hl c⟩⟩
section
variable {o:Oper} {N:List (Nat×aQ)} {x:Operand} {f g i:aQ}
theorem nK (hd:f.dep=none) (ho:o.op = .extract x 0) (hx:bF N x (KT f g)):di P o N [] f [] :=
 di.qG fun h a w _ q=>by
  obtain ⟨u,v,e,p1,_⟩:=hx h a q
  exact ⟨u,by simp [execOp,ho,e,Instr.extract],by unfold aQ.dv;rw [hd];exact p1⟩
theorem mP (hd:g.dep=none) (ho:o.op = .extract x 1) (hx:bF N x (KT f g)):di P o N [] g [] :=
 di.qG fun h a w _ q=>by
  obtain ⟨u,v,e,_,p2⟩:=hx h a q
  exact ⟨v,by simp [execOp,ho,e,Instr.extract],by unfold aQ.dv;rw [hd];exact p2⟩
theorem LH (hd:f.dep=none) (ho:o.op = .extract x 0) (hx:bF N x (fT3 f g i)):di P o N [] f [] :=
 di.qG fun h a w _ q=>by
  obtain ⟨u,v,z,e,p1,_⟩:=hx h a q
  exact ⟨u,by simp [execOp,ho,e,Instr.extract],by unfold aQ.dv;rw [hd];exact p1⟩
theorem LJ (hd:g.dep=none) (ho:o.op = .extract x 1) (hx:bF N x (fT3 f g i)):di P o N [] g [] :=
 di.qG fun h a w _ q=>by
  obtain ⟨u,v,z,e,_,p2,_⟩:=hx h a q
  exact ⟨v,by simp [execOp,ho,e,Instr.extract],by unfold aQ.dv;rw [hd];exact p2⟩
theorem LK (hd:i.dep=none) (ho:o.op = .extract x 2) (hx:bF N x (fT3 f g i)):di P o N [] i [] :=
 di.qG fun h a w _ q=>by
  obtain ⟨u,v,z,e,_,_,p3⟩:=hx h a q
  exact ⟨z,by simp [execOp,ho,e,Instr.extract],by unfold aQ.dv;rw [hd];exact p3⟩
end
def resV (tmps:Array Value):ResultVar→Sem Value
 | .tmp t=>pure (tmps.getD t undef)
 | .cell a t=>do loadVar t (← asAddr (tmps.getD a undef))
def LM (P:Program) (Γ:Ctx) (Λ:Own) (rv:ResultVar) (g:aQ):Prop :=
 ∀ (κ:Type) (B:Base) (F:κ→Option gq) (h:H) (a:Act) (w:World),∀ L,St B h (Sum.elim L F) w→LP Λ L a→Sat Γ h a→∃ v,(resV a.tmps rv).run P w = .ok v w∧g.p h undef v
theorem aN {s:Nat} {g:aQ} (hd:g.dep=none) (hs:Γ s=g):LM P Γ Λ (.tmp s) g:=by
 intro κ B F h a w L _ _ oO
 have hf:=oO s
 rw [hs] at hf
 unfold aQ.at aQ.dv at hf
 rw [hd] at hf
 exact ⟨a.gt s,rfl,hf⟩
theorem EU {α:Type} {r:Rep α} {x:α} {T:TypeId} {s:Nat} (t:fU P T r) (hs:Λ s=some (dJ T r x)):LM P Γ Λ (.cell s T) (fV r x):=by
 intro κ B F h a w L hst vN oO
 obtain ⟨e,hL,b,hv,rfl⟩:=vN s _ hs
 obtain ⟨cs,hb,hrel⟩:=JP hst hL
 obtain ⟨c,hc,hrun⟩:=yI t (Lens.refl r) hb hrel
 refine ⟨pack r.agg c,?_,c,hc,rfl⟩
 have hv':a.tmps.getD s undef = .pointer (some ⟨b,0,none⟩):=hv
 have hrun':(loadVar T ⟨b,0,none⟩).run P w = .ok (pack r.agg c) w:=by simpa [Instr.loadAt,Instr.sureAddr] using hrun
 simp only [resV,hv',asAddr,Sem.run_bind,Sem.run_pure,Result.andThen_ok,hrun']
theorem zl (fn:Func) (tmps:Array Value):results fn tmps=(do let vs ← fn.results.mapM (resV tmps);pure (if h:vs.size=1 then vs[0] else .tuple vs)):=by
 unfold results
 congr 2
theorem dX {fn:Func} {rv:ResultVar} {g:aQ} (hr:fn.results = #[rv]) (h1:LM P Γ Λ rv g) (hAt:At B h0 Γ Λ F n a w):Le P fn B h0 F g .ret a w:=by
 obtain ⟨h,L,hl,hst,vN,oO,_,hdf⟩:=hAt
 obtain ⟨v,hv,hp⟩:=h1 _ B F h a w L hst vN oO
 refine fun hB=>.inl ⟨hdf.trans hB,v,?_,v,h,rfl,hl,hst.right,hp⟩
 rw [zl];simp [hr,hv]
theorem EW {fn:Func} {rv rv':ResultVar} {g g':aQ} (hr:fn.results = #[rv,rv']) (h1:LM P Γ Λ rv g) (h2:LM P Γ Λ rv' g') (hAt:At B h0 Γ Λ F n a w):Le P fn B h0 F (KT g g') .ret a w:=by
 obtain ⟨h,L,hl,hst,vN,oO,_,hdf⟩:=hAt
 obtain ⟨v,hv,hp⟩:=h1 _ B F h a w L hst vN oO
 obtain ⟨v',hv',hp'⟩:=h2 _ B F h a w L hst vN oO
 refine fun hB=>.inl ⟨hdf.trans hB,.tuple #[v,v'],?_,_,h,rfl,hl,hst.right,v,v',rfl,hp,hp'⟩
 rw [zl];simp [hr,hv,hv']
theorem Qp {fn:Func} {rv rv' rv'':ResultVar} {g g' g'':aQ} (hr:fn.results = #[rv,rv',rv'']) (h1:LM P Γ Λ rv g) (h2:LM P Γ Λ rv' g') (h3:LM P Γ Λ rv'' g'') (hAt:At B h0 Γ Λ F n a w):Le P fn B h0 F (fT3 g g' g'') .ret a w:=by
 obtain ⟨h,L,hl,hst,vN,oO,_,hdf⟩:=hAt
 obtain ⟨v,hv,hp⟩:=h1 _ B F h a w L hst vN oO
 obtain ⟨v',hv',hp'⟩:=h2 _ B F h a w L hst vN oO
 obtain ⟨v'',hv'',hp''⟩:=h3 _ B F h a w L hst vN oO
 refine fun hB=>.inl ⟨hdf.trans hB,.tuple #[v,v',v''],?_,_,h,rfl,hl,hst.right,v,v',v'',rfl,hp,hp',hp''⟩
 rw [zl];simp [hr,hv,hv',hv'']
def uQ (fn:Func):Bool:=fn.body.isSome && !(fn.name == "runtime.NumGoroutine")
def xg (N:List (Nat×aQ)):List aQ→List Operand→Prop
 | [],[]=>True
 | g :: gs,x :: xs=>bF N x g∧xg N gs xs
 | _,_=>False
theorem xg.spec {N:List (Nat×aQ)}:∀ {gs:List aQ} {xs:List Operand},xg N gs xs→gs.length=xs.length∧∀ (i:Nat) (g:aQ) (x:Operand),gs[i]? = some g→xs[i]? = some x→bF N x g:=by
 intro gs
 induction gs with
 | nil=>intro xs h;cases xs with
  | nil=>exact ⟨rfl,fun i g x h=>by simp at h⟩
  | cons _ _=>exact h.elim
 | cons g gs ih =>
  intro xs h
  cases xs with
  | nil=>exact h.elim
  | cons x xs =>
   obtain ⟨h1,h2⟩:=h
   obtain ⟨h3,h4⟩:=ih h2
   refine ⟨by simp [h3],fun i g' x' hg hx=>?_⟩
   cases i with
   | zero=>cases hg;cases hx;exact h1
   | succ i=>exact h4 i g' x' (by simpa using hg) (by simpa using hx)
theorem EX {f:FuncId} {fn:Func} {args:List aQ} {post:aQ} {xs:Array Operand} {ts:Array TypeId} {N:List (Nat×aQ)} {o:Oper} (hc:FnOk P f args post) (hf:P.funcs[f]? = some fn) (hb:uQ fn=true) (hd:ul (post :: args)=true)
  (ho:o.op = .call { callee:=.value (.func f),args:=xs,argTypes:=ts }) (hargs:xg N args xs.toList):di P o N [] post []:=by
 intro κ B F L h a w hst hn _ _ next Q hnext _
 simp only [uQ,Bool.and_eq_true,Bool.not_eq_true'] at hb
 have hbody:fn.body≠none:=by
  intro hx;rw [hx] at hb;cases hb.1
 have hname:fn.name ≠ "runtime.NumGoroutine":=by simpa using hb.2
 have hdp:=og hd
 obtain ⟨hlen,hall⟩:=hargs.spec
 unfold Oper.rJ
 have:(execOp a.eval o).run P w = .ok (.enter f (xs.toList.map a.eval).toArray) w:=by
  have e:(xs.toList.map a.eval).toArray=xs.map a.eval:=by apply Array.ext';simp
  rw [e]
  simp [execOp,ho,resolve,Act.eval,Deferred.ofValue,invoke,callFunc,hf,hname,hbody]
 rw [this,Ec]
 refine (hc _ B (Sum.elim L F) h w (xs.toList.map a.eval) hst (by rw [List.length_map];exact hlen) ?_).mono ?_
 ·intro i g v hg hv
  rw [List.getElem?_map] at hv
  cases hx:xs.toList[i]? with
  | none=>rw [hx] at hv;cases hv
  | some x =>
   rw [hx] at hv;cases hv
   have:=hall i g x hg hx h a hn
   unfold aQ.dv at this
   rw [hdp g (List.mem_cons_of_mem _ (List.mem_of_getElem? hg))] at this
   exact this
 ·rintro e w' ⟨v,h',rfl,hl,hst',hp⟩
  refine hnext v h' w' L hl ?_ hst' nJ
  unfold aQ.dv
  rw [hdp post List.mem_cons_self]
  exact hp
end Go.KB
namespace Go.KB
def DF (n:Nat):List Oper→Bool
 | []=>true
 | o :: os=>(match o.dst with | some d=>Nat.blt d n | none=>true)&&DF n os
theorem EY {n:Nat}:∀ {l:List Oper},DF n l=true→∀ o ∈ l,∀ d,o.dst=some d→d<n:=by
 intro l
 induction l with
 | nil=>intro _ o h;cases h
 | cons x r ih =>
  intro h o ho d hd
  simp only [DF,Bool.and_eq_true] at h
  rcases List.mem_cons.1 ho with rfl | ho
  ·have:=h.1;rw [hd] at this;simpa [Nat.blt_eq] using this
  ·exact ih h.2 o ho d hd
variable {ρ:Option Nat} {P:Program} {κ:Type} {B:Base} {h0:H} {Γ:Ctx} {Λ:Own} {F:κ→Option gq} {n:Nat} {a:Act} {w:World} {Q:Exit→Act→World→Prop}
theorem reg {id:Nat} {ops:Array Oper} (sp:List OS) (l m:List Nat) (hAt:At B h0 Γ Λ F n a w) (Ed:LQ P sp ops.toList Γ Λ ops.toList sp)
  (vZ:(chk Γ Λ false ops.toList sp&&DF n ops.toList)=true)
  (hnext:∀ a w,At B h0 (Sm (Gp (Ik Γ ops.toList sp) l)) (NJ (FY (Cb Λ ops.toList sp) m)) F n a w→Q .normal a w):(Code.region id ops false).rJ ρ P Q a w:=by
 rw [Bool.and_eq_true] at vZ
 exact wp_reg sp hAt Ed vZ.1 (EY vZ.2) (fun a w x=>hnext a w (x.pick l m))
theorem regd {id:Nat} {ops:Array Oper} (sp:List OS) (rt rg l m:List Nat) (hAt:At B h0 Γ Λ F n a w) (Ed:LQ P sp ops.toList Γ Λ ops.toList sp)
  (vZ:(chk Γ Λ true ops.toList sp&&inRange ops.size ops.toList&&zL .text rt 0 ops.toList&&zL .gc rg 0 ops.toList&&zL .any rt 0 ops.toList&&DF n ops.toList)=true)
  (hnext:∀ a w,At B h0 (Sm (Gp (Ik Γ ops.toList sp) l)) (NJ (FY (Cb Λ ops.toList sp) m)) F n a w→Q .normal a w):(Code.region id ops true).rJ ρ P Q a w:=by
 rw [Bool.and_eq_true] at vZ
 exact Ze sp rt rg hAt Ed vZ.1 (EY vZ.2) (fun a w x=>hnext a w (x.pick l m))
theorem rg {id:Nat} {ops:Array Oper} (sp:List OS) (Γ':List (Nat×aQ)) (Λ':List (Nat×(eP))) (hAt:At B h0 Γ Λ F n a w) (Ed:LQ P sp ops.toList Γ Λ ops.toList sp)
  (hnext:∀ a w,At B h0 (Sm Γ') (NJ Λ') F n a w→Q .normal a w)
  (vZ:(chk Γ Λ false ops.toList sp&&DF n ops.toList)=true:=by kernel_rfl) (hg:Gp (Ik Γ ops.toList sp) (Γ'.map (·.1))=Γ':=by rfl) (hl:FY (Cb Λ ops.toList sp) (Λ'.map (·.1))=Λ':=by rfl):(Code.region id ops false).rJ ρ P Q a w :=
 reg sp _ _ hAt Ed vZ (fun a w x=>hnext a w (by rw [hg,hl] at x;exact x))
theorem rd {id:Nat} {ops:Array Oper} (sp:List OS) (rt rg:List Nat) (Γ':List (Nat×aQ)) (Λ':List (Nat×(eP))) (hAt:At B h0 Γ Λ F n a w) (Ed:LQ P sp ops.toList Γ Λ ops.toList sp)
  (hnext:∀ a w,At B h0 (Sm Γ') (NJ Λ') F n a w→Q .normal a w)
  (vZ:(chk Γ Λ true ops.toList sp&&inRange ops.size ops.toList&&zL .text rt 0 ops.toList&&zL .gc rg 0 ops.toList&&zL .any rt 0 ops.toList&&DF n ops.toList)=true:=by kernel_rfl) (hg:Gp (Ik Γ ops.toList sp) (Γ'.map (·.1))=Γ':=by rfl) (hl:FY (Cb Λ ops.toList sp) (Λ'.map (·.1))=Λ':=by rfl):(Code.region id ops true).rJ ρ P Q a w :=
 regd sp rt rg _ _ hAt Ed vZ (fun a w x=>hnext a w (by rw [hg,hl] at x;exact x))
def Sr (P:Program) (f:FuncId):Bool:=match P.funcs[f]? with | some fn=>uQ fn | none=>false
theorem jf {f:FuncId} {args:List aQ} {post:aQ} {xs:Array Operand} {ts:Array TypeId} {N:List (Nat×aQ)} {o:Oper} (hc:FnOk P f args post)
  (ho:o.op = .call { callee:=.value (.func f),args:=xs,argTypes:=ts }) (hargs:xg N args xs.toList) (hb:Sr P f=true:=by kernel_rfl) (hd:ul (post :: args)=true:=by kernel_rfl):di P o N [] post []:=by
 unfold Sr at hb
 cases hf:P.funcs[f]? with
 | none=>rw [hf] at hb;cases hb
 | some fn=>rw [hf] at hb;exact EX hc hf hb hd ho hargs
theorem xg.id:∀ {M:List (Nat×aQ)} {N:List (Nat×aQ)},(∀ h a,Dl N h a→Dl M h a)→xg N (M.map (·.2)) (M.map fun q=>.tmp q.1):=by
 intro M
 induction M with
 | nil=>intro N _;trivial
 | cons q M ih=>intro N hM;exact ⟨fun h a n=>(hM h a n).1,ih fun h a n=>(hM h a n).2⟩
theorem dW {f:FuncId} {args:List aQ} {post:aQ} {xs:Array Operand} {ts:Array TypeId} {N:List (Nat×aQ)} {o:Oper} (hc:FnOk P f args post)
  (ho:o.op = .call { callee:=.value (.func f),args:=xs,argTypes:=ts }) (ha:args=N.map (·.2):=by rfl) (hx:xs.toList=N.map (fun q=>.tmp q.1):=by rfl) (hb:Sr P f=true:=by kernel_rfl) (hd:ul (post :: args)=true:=by kernel_rfl):di P o N [] post [] :=
 jf hc ho (by rw [hx,ha];exact xg.id fun _ _ n=>n) hb hd
abbrev AG {κ:Type} (B:Base) (h0:H) (g:List (Nat×aQ)) (l:List (Nat×(eP))) (F:κ→Option gq) (n:Nat) (a:Act) (w:World):Prop:=At B h0 (Sm g) (NJ l) F n a w
abbrev sp (f:aQ) (r:List (Nat×Option Nat)):OS:=⟨f,[],r,[]⟩
abbrev si (v:Int) (r:List (Nat×Option Nat)):OS:=⟨fV (Rep.int .i64) v,[],r,[]⟩
abbrev sb (v:Bool) (r:List (Nat×Option Nat)):OS:=⟨fV Rep.bool v,[],r,[]⟩
abbrev sr {α:Type} (q:Rep α) (v:α) (r:List (Nat×Option Nat)):OS:=⟨dn q v,[],r,[]⟩
abbrev sv {α:Type} (q:Rep α) (v:α) (r:List (Nat×Option Nat)):OS:=⟨fV q v,[],r,[]⟩
abbrev sk (f:aQ) (k:List (Nat×Option Nat)):OS:=⟨f,[],[],k⟩
theorem At.pk {κ:Type} {B:Base} {h0:H} {Γ:Ctx} {Λ:Own} {F:κ→Option gq} {n:Nat} {a:Act} {w:World} (x:At B h0 Γ Λ F n a w) (Γ':List (Nat×aQ)) (Λ':List (Nat×eP)) (hg:Gp Γ (Γ'.map (·.1))=Γ':=by rfl) (hl:FY Λ (Λ'.map (·.1))=Λ':=by rfl):At B h0 (Sm Γ') (NJ Λ') F n a w:=by
 have:=x.pick (Γ'.map (·.1)) (Λ'.map (·.1))
 rw [hg,hl] at this
 exact this
theorem aG:True:=trivial
abbrev jM:Rep Str:=Rep.str
abbrev aH {f:aQ} (a b:Nat):OS:=⟨f,[],[(a,some b)],[]⟩
abbrev aT {f:aQ} (a:Nat):OS:=⟨f,[],[(a,none)],[]⟩
abbrev wU {f:aQ} (a:Nat):OS:=⟨f,[],[],[(a,none)]⟩
abbrev sq {f:aQ} (r:List (Nat×Option Nat)):OS:=⟨f,[],r,[]⟩
abbrev sz {f:aQ} (k:List (Nat×Option Nat)):OS:=⟨f,[],[],k⟩
abbrev sy {f:aQ} (r k:List (Nat×Option Nat)):OS:=⟨f,[],r,k⟩
abbrev sa (n:Nat) (q:eP):OS:=⟨aQ.rD,[(n,some q)],[],[]⟩
abbrev sx (n:Nat) (q:eP) (r k:List (Nat×Option Nat)):OS:=⟨aQ.rD,[(n,some q)],r,k⟩
abbrev ids (n:Nat):List Nat:=List.range n
abbrev ss (n m:Nat):Nat×Option Nat:=(n,some m)
abbrev nn (n:Nat):Nat×Option Nat:=(n,none)
abbrev ft:aQ:=aQ.rD
abbrev fI (v:Int):aQ:=fV (Rep.int .i64) v
abbrev fB (v:Bool):aQ:=fV Rep.bool v
abbrev rI:Rep (List Int):=Rep.slice (Rep.int .i64)
abbrev wI:Int→Int:=IntKind.i64.wrap
end Go.KB
namespace Go.KB
section
variable {K:Act→World→Prop} {Q:Exit→Act→World→Prop} {a:Act} {w:World} {i j:Nat}
theorem dD (h:Q (.exit i) a w):Exit.then K Q (.exit i) a w:=h
theorem dO (h:Q .normal a w):Exit.inBlock i Q .normal a w:=h
theorem dH (h:Q .ret a w):Exit.inBlock i Q .ret a w:=h
theorem dG (h:Q .normal a w):Exit.inBlock i Q (.exit i) a w:=by simp [Exit.inBlock];exact h
theorem blk_ne (hne:Nat.beq i j=false) (h:Q (.exit i) a w):Exit.inBlock j Q (.exit i) a w:=by
 have:i≠j:=fun e=>by rw [iQ.2 e] at hne;cases hne
 simp [Exit.inBlock,this];exact h
theorem fC:Exit.exit i ≠ .normal:=fun h=>by cases h
theorem fD:Exit.ret ≠ .normal:=fun h=>by cases h
end
def jk (v:Value):aQ:=⟨none,fun _ _ u=>u=v,fun _ x=>x⟩
def Qq (d:Option Nat) (s:Nat):Bool:=match d with | some d=>!(Nat.beq d s) | none=>true
end Go.KB
namespace Go.KB
variable {P:Program} {o:Oper} {N:List (Nat×aQ)} {α β γ:Type}
def fF (P:Program) {ι:Type} (A:ι→List aQ) (R:ι→aQ):aQ :=
 ⟨none,fun h _ v=>∃ f fn cap,v = .func (.func f) #[] cap∧P.funcs[f]? = some fn∧uQ fn=true∧∀ i (κ:Type) (B:Base) (L:κ→Option gq) (h':H) (w:World) (vs:List Value),nI h h'→St B h' L w→(A i).length=vs.length →
   (∀ (j:Nat) (g:aQ) (v:Value),(A i)[j]? = some g→vs[j]? = some v→g.p h' undef v)→Calls P f (vs.toArray ++ cap) w (fun e w'=>∃ v h'',e = .returned v∧nI h' h''∧St B h'' L w'∧(R i).p h'' undef v),
  fun hl ⟨f,fn,cap,e,hf,hb,k⟩=>⟨f,fn,cap,e,hf,hb,fun i κ B L h' w vs hl'=>k i κ B L h' w vs (hl.trans hl')⟩⟩
def N8 (P:Program) (r:Rep α) (q:Rep β) (φ:α→Option β):aQ:=fF P (ι:={p:α×β // φ p.1=some p.2}) (fun p=>[fV r p.1.1]) (fun p=>fV q p.1.2)
def fF2 (P:Program) (r:Rep α) (s:Rep γ) (q:Rep β) (φ:α→γ→Option β):aQ:=fF P (ι:={p:α×γ×β // φ p.1 p.2.1=some p.2.2}) (fun p=>[fV r p.1.1,fV s p.1.2.1]) (fun p=>fV q p.1.2.2)
theorem ok_mkF {ι:Type} {A:ι→List aQ} {R:ι→aQ} {C:List aQ} {f:FuncId} {fn:Func} {xs:Array Operand} (hc:∀ i,FnOk P f (A i ++ C) (R i)) (hf:P.funcs[f]? = some fn) (hb:uQ fn=true) (hd:ul C=true)
    (ho:o.op = .makeFunc (.func f) #[] xs) (hargs:xg N C xs.toList):di P o N [] (fF P A R) [] :=
  di.qG fun h a w _ hn=>by
    have hdp:=og hd
    obtain ⟨hlen,hall⟩:=hargs.spec
    refine ⟨.func (.func f) #[] (xs.map a.eval),by simp [execOp,ho,Instr.makeFunc],f,fn,_,rfl,hf,hb,fun i κ B L h' w' vs hl hst hvl hvs=>?_⟩
    have e:vs.toArray ++ xs.map a.eval=(vs ++ xs.toList.map a.eval).toArray:=by apply Array.ext';simp
    rw [e]
    refine hc i κ B L h' w' _ hst (by simp [hvl,hlen]) fun j g v hg hv=>?_
    by_cases hj:j<vs.length
    · rw [List.getElem?_append_left (by rw [hvl]; exact hj)] at hg
      rw [List.getElem?_append_left hj] at hv
      exact hvs j g v hg hv
    · rw [List.getElem?_append_right (by rw [hvl]; omega)] at hg
      rw [List.getElem?_append_right (by omega),List.getElem?_map] at hv
      rw [hvl] at hg
      cases hx:xs.toList[j - vs.length]? with
      | none=>rw [hx] at hv;cases hv
      | some x =>
        rw [hx] at hv;cases hv
        have:=hall _ g x hg hx h a hn
        unfold aQ.dv at this
        rw [hdp g (List.mem_of_getElem? hg)] at this
        exact g.mono hl this
theorem Hq {r:Rep α} {q:Rep β} {φ:α→Option β} {C:List aQ} {f:FuncId} {fn:Func} {xs:Array Operand} (hc:∀ x y,φ x=some y→FnOk P f (fV r x :: C) (fV q y)) (hf:P.funcs[f]? = some fn) (hb:uQ fn=true) (hd:ul C=true)
  (ho:o.op = .makeFunc (.func f) #[] xs) (hargs:xg N C xs.toList):di P o N [] (N8 P r q φ) []:=ok_mkF (fun i=>hc _ _ i.2) hf hb hd ho hargs
theorem Qr {ι:Type} {A:ι→List aQ} {R:ι→aQ} (i:ι) {z:Operand} {xs:Array Operand} {ts:Array TypeId} (hd:ul (R i :: A i)=true) (ho:o.op = .call { callee:=.value z,args:=xs,argTypes:=ts })
  (hz:bF N z (fF P A R)) (hargs:xg N (A i) xs.toList):di P o N [] (R i) []:=by
 intro κ B F L h a w hst hn _ _ next Q hnext _
 obtain ⟨f,fn,cap,hv,hf,hb,hk⟩:=hz h a hn
 simp only [uQ,Bool.and_eq_true,Bool.not_eq_true'] at hb
 have hbody:fn.body≠none:=by
  intro hx;rw [hx] at hb;cases hb.1
 have hname:fn.name ≠ "runtime.NumGoroutine":=by simpa using hb.2
 have hdp:=og hd
 obtain ⟨hlen,hall⟩:=hargs.spec
 unfold Oper.rJ
 have:(execOp a.eval o).run P w = .ok (.enter f ((xs.toList.map a.eval).toArray ++ cap)) w:=by
  have e:(xs.toList.map a.eval).toArray=xs.map a.eval:=by apply Array.ext';simp
  rw [e]
  simp [execOp,ho,resolve,hv,Deferred.ofValue,invoke,callFunc,hf,hname,hbody]
 rw [this,Ec]
 refine (hk i _ B (Sum.elim L F) h w (xs.toList.map a.eval) (nI.refl h) hst (by rw [List.length_map];exact hlen) ?_).mono ?_
 ·intro j g v hg hv
  rw [List.getElem?_map] at hv
  cases hx:xs.toList[j]? with
  | none=>rw [hx] at hv;cases hv
  | some x =>
   rw [hx] at hv;cases hv
   have:=hall j g x hg hx h a hn
   unfold aQ.dv at this
   rw [hdp g (List.mem_cons_of_mem _ (List.mem_of_getElem? hg))] at this
   exact this
 ·rintro e w' ⟨v,h',rfl,hl,hst',hp⟩
  refine hnext v h' w' L hl ?_ hst' nJ
  unfold aQ.dv
  rw [hdp _ List.mem_cons_self]
  exact hp
theorem Ag {r:Rep α} {q:Rep β} {φ:α→Option β} {x:α} {y:β} (hq:φ x=some y) {z:Operand} {xs:Array Operand} {ts:Array TypeId} (ho:o.op = .call { callee:=.value z,args:=xs,argTypes:=ts })
  (hz:bF N z (N8 P r q φ)) (hargs:xg N [fV r x] xs.toList):di P o N [] (fV q y) []:=Qr (ι:={p:α×β // φ p.1=some p.2}) ⟨(x,y),hq⟩ rfl ho hz hargs
theorem Vs {r:Rep α} {s:Rep γ} {q:Rep β} {φ:α→γ→Option β} {x:α} {u:γ} {y:β} (hq:φ x u=some y) {z:Operand} {xs:Array Operand} {ts:Array TypeId} (ho:o.op = .call { callee:=.value z,args:=xs,argTypes:=ts })
  (hz:bF N z (fF2 P r s q φ)) (hargs:xg N [fV r x,fV s u] xs.toList):di P o N [] (fV q y) []:=Qr (ι:={p:α×γ×β // φ p.1 p.2.1=some p.2.2}) ⟨(x,u,y),hq⟩ rfl ho hz hargs
section
variable {κ:Type} {B:Base} {h0:H} {Γ:Ctx} {Λ:Own} {F:κ→Option gq} {n:Nat} {a:Act} {w:World} {Q:Exit→Act→World→Prop}
end
def Uz (P:Program) (f:FuncId) (args:List aQ) (q:eP) (post:aQ):Prop :=
 ∀ (κ:Type) (B:Base) (L:κ→Option gq) (h:H) (w:World) (vs:List Value),St B h L w→args.length=vs.length→(∀ (i:Nat) (g:aQ) (v:Value),args[i]? = some g→vs[i]? = some v→g.p h undef v) →
  Calls P f vs.toArray w (fun e w'=>∃ v h' x,e = .returned v∧nI h h'∧St B h' (Sum.elim (fun _:Unit=>some x) L) w'∧post.p h' undef v∧q v x)
def Qs (P:Program) (fn:Func) {κ:Type} (B:Base) (h0:H) (F:κ→Option gq) (q:eP) (post:aQ):Exit→Act→World→Prop :=
 fun e a w=>B.df=[]→KG P fn (fun e w'=>∃ v h' x,e = .returned v∧nI h0 h'∧St B h' (Sum.elim (fun _:Unit=>some x) F) w'∧post.p h' undef v∧q v x) e a w
theorem N9 {n:Nat} {f:FuncId} {fn:Func} {c:Code} {args:List aQ} {q:eP} {post:aQ} (hf:P.funcs[f]? = some fn) (hb:fn.body=some c) (hn:fn.ntmps=n) (vZ:(Nat.ble args.length n&&ul args)=true)
  (hwp:∀ (κ:Type) (B:Base) (h0:H) (F:κ→Option gq) (a:Act) (w:World),At B h0 (Sm (Ia 0 args)) (NJ []) F n a w→c.rJ none P (Qs P fn B h0 F q post) a w):Uz P f args q post:=by
 intro κ B L h w vs hst hl hargs
 rw [Bool.and_eq_true,Nat.ble_eq] at vZ
 obtain ⟨hlen,hdp⟩:=vZ
 have BL:=og hdp
 refine BK rfl hf hb (hwp _ B.e h L _ w ⟨h,fun _=>none,nI.refl h,(St.Uy hst).toE,fun s q hq=>(by cases hq),?_,?_,rfl⟩) (fun _ _ ⟨v,h',x,he,hl,hs,hp⟩=>⟨v,h',x,he,hl,hs.ofE,hp⟩)
 ·intro s
  rcases Ho args 0 s with h1 | ⟨j,g,h1,h2,h3⟩
  ·show (Qi (Ia 0 args) s).at _ _ _;rw [h1];exact trivial
  ·show (Qi (Ia 0 args) s).at _ _ _;rw [h3]
   have hj:=(List.getElem?_eq_some_iff.1 h1).1
   have hv:vs[j]? = some vs[j]:=List.getElem?_eq_getElem (by omega)
   have:=hargs j g _ h1 hv
   unfold aQ.at aQ.dv
   rw [BL g (List.mem_of_getElem? h1)]
   have he:Act.gt { tmps:=vs.toArray ++ Array.replicate (fn.ntmps - vs.toArray.size) undef,defers:=[] } s=vs[j]:=by
    rw [h2,Nat.zero_add]
    simp only [Act.gt,Array.getD_eq_getD_getElem?]
    rw [Array.getElem?_append_left (by simp;omega)]
    simp [hv]
   rw [he];exact this
 ·simp;omega
section
variable {κ:Type} {B:Base} {h h0:H} {L:Nat→Option gq} {Γ:Ctx} {Λ:Own} {F:κ→Option gq} {n:Nat} {a:Act} {w:World} {q:eP}
theorem St.one (hst:St B h (Sum.elim L F) w) (s:Nat) {e:gq} (hL:L s=some e):St B h (Sum.elim (fun _:Unit=>some e) F) w:=by
 refine hst.FX (fun k=>match k with | .inl _=>.inl s | .inr k=>.inr k) ?_ ?_
 ·intro k e' hk
  cases k with
  | inl _=>exact hL.trans hk
  | inr k=>exact hk
 ·intro k k' e1 e2 h1 h2 hne
  cases k with
  | inl u=>cases k' with
   | inl u'=>exact absurd rfl hne
   | inr k'=>intro he;cases he
  | inr k=>cases k' with
   | inl u'=>intro he;cases he
   | inr k'=>intro he;exact hne (by rw [Sum.inr.inj he])
theorem WZ {fn:Func} {s:Nat} (hr:fn.results = #[.tmp s]) (hs:Λ s=some q) (hAt:At B h0 Γ Λ F n a w):Qs P fn B h0 F q aQ.rD .ret a w:=by
 obtain ⟨h,L,hl,hst,vN,oO,_,hdf⟩:=hAt
 obtain ⟨e,hL,hq⟩:=vN s q hs
 refine fun hB=>.inl ⟨hdf.trans hB,a.gt s,?_,a.gt s,h,e,rfl,hl,hst.one s hL,trivial,hq⟩
 have hv:(resV a.tmps (.tmp s)).run P w = .ok (a.gt s) w:=rfl
 rw [zl];simp [hr,hv]
end
theorem LU {d:Nat} {f:FuncId} {fn:Func} {args:List aQ} {q:eP} {post:aQ} {xs:Array Operand} {ts:Array TypeId} (hc:Uz P f args q post) (hf:P.funcs[f]? = some fn) (hb:uQ fn=true) (hd:ul (post :: args)=true) (hdst:o.dst=some d)
    (ho:o.op = .call { callee:=.value (.func f),args:=xs,argTypes:=ts }) (hargs:xg N args xs.toList):di P o N [] post [(d,some q)]:=by
  intro κ B F L h a w hst hn _ hdn next Q hnext _
  simp only [uQ,Bool.and_eq_true,Bool.not_eq_true'] at hb
  have hbody:fn.body≠none:=by
    intro hx;rw [hx] at hb;cases hb.1
  have hname:fn.name ≠ "runtime.NumGoroutine":=by simpa using hb.2
  have hdp:=og hd
  obtain ⟨hlen,hall⟩:=hargs.spec
  unfold Oper.rJ
  have:(execOp a.eval o).run P w = .ok (.enter f (xs.toList.map a.eval).toArray) w:=by
    have e:(xs.toList.map a.eval).toArray=xs.map a.eval:=by apply Array.ext';simp
    rw [e]
    simp [execOp,ho,resolve,Act.eval,Deferred.ofValue,invoke,callFunc,hf,hname,hbody]
  rw [this,Ec]
  refine (hc _ B (Sum.elim L F) h w (xs.toList.map a.eval) hst (by rw [List.length_map];exact hlen) ?_).mono ?_
  · intro i g v hg hv
    rw [List.getElem?_map] at hv
    cases hx:xs.toList[i]? with
    | none=>rw [hx] at hv;cases hv
    | some x =>
      rw [hx] at hv;cases hv
      have:=hall i g x hg hx h a hn
      unfold aQ.dv at this
      rw [hdp g (List.mem_cons_of_mem _ (List.mem_of_getElem? hg))] at this
      exact this
  · rintro e w' ⟨v,h',x,rfl,hl,hst',hp,hq⟩
    refine hnext v h' w' (set1 L d x) hl ?_ ?_ ?_
    · unfold aQ.dv
      rw [hdp post List.mem_cons_self]
      exact hp
    · refine hst'.FX (fun k => match k with | .inl k => if k = d then .inl () else .inr (.inl k) | .inr k => .inr (.inr k)) ?_ ?_
      · intro k e hk
        cases k with
        | inr k=>exact hk
        | inl k =>
          by_cases hkd:k=d
          · subst hkd;simp [set1] at hk;simp [hk]
          · simp [set1,hkd] at hk;simp [hkd,hk]
      · intro k k' e1 e2 h1 h2 hne
        cases k with
        | inr k=>cases k' with
          | inr k'=>intro he;exact hne (by rw [Sum.inr.inj (Sum.inr.inj he)])
          | inl k'=>intro he;simp only [] at he;split at he <;> cases he
        | inl k=>cases k' with
          | inr k'=>intro he;simp only [] at he;split at he <;> cases he
          | inl k' =>
            have hne':k≠k':=fun x=>hne (by rw [x])
            simp only []
            intro he
            split at he <;> split at he
            · rename_i h3 h4;exact hne' (h3.trans h4.symm)
            · cases he
            · cases he
            · exact hne' (Sum.inl.inj (Sum.inr.inj he))
    · rw [hdst]
      exact qL (by rw [fG (hdn d hdst)];exact hq)
end Go.KB
namespace Go.KB
variable {P:Program} {o:Oper} {N:List (Nat×aQ)} {f:aQ} {α β:Type}
structure OU where
 b:Nat
 cap:Nat
 pre:List Value
 post:List Value
def EZ (K:OU) (E:TypeId) (r:Rep α) (xs:List α):gq where
 claims:=[(K.b,0)]
 ok:=fun h m=>∃ cs,m K.b=some (.cells (K.pre ++ cs ++ K.post).toArray E (0,0))∧tJ r h cs xs
 mono:=by rintro h h' m hl ⟨cs,e,k⟩;exact ⟨cs,e,k.mono hl⟩
 frame:=fun hm ⟨cs,e,k⟩=>⟨cs,by rw [hm (K.b,0) (by simp)];exact e,k⟩
def JQ (K:Option OU) (E:TypeId) (r:Rep α) (xs:List α):eP:=fun v e =>
 match K with
 | none=>(∃ base,v = .slice base 0 0)∧xs=[]∧e=oV
 | some K=>v = .slice (some ⟨K.b,K.pre.length,none⟩) xs.length K.cap∧xs.length≤K.cap∧e=EZ K E r xs
def fElS (s off:Nat):aQ:=⟨some s,fun _ d v=>∃ b p len cap,d = .slice (some ⟨b,p,none⟩) len cap∧v = .pointer (some ⟨b,p+off,none⟩),fun _ x=>x⟩
theorem Vt {K:Option OU} {T E E':TypeId} {r:Rep α} {s:Nat} {x:Operand} {xs:List α} (hT:P.underlying T=some (.slice E')) (ho:o.op = .call { callee:=.builtin .len,args:=#[x],argTypes:=#[T] }) (hx:bF N x (Qh s)) :
  di P o N [(s,JQ K E r xs)] (fV (Rep.int .i64) (xs.length:Int)) []:=by
 intro κ B F L h a w hst hn hk _ next Q hnext _
 obtain ⟨e,_,hq⟩:=hk.1
 have hx':a.eval x=a.gt s:=hx h a hn
 have:(execOp a.eval o).run P w = .ok (.value (.int .i64 (xs.length:Int))) w:=by
  cases K with
  | none =>
   obtain ⟨⟨base,hv⟩,rfl,_⟩:=hq
   have hv':a.gt s=_:=hv
   simp [execOp,ho,resolve,invoke,builtin,Builtin.len_,hx',hv',run_underlying hT,goInt]
  | some K =>
   obtain ⟨hv,_,_⟩:=hq
   have hv':a.gt s=_:=hv
   simp [execOp,ho,resolve,invoke,builtin,Builtin.len_,hx',hv',run_underlying hT,goInt]
 unfold Oper.rJ
 rw [this]
 exact hnext _ h w L (nI.refl h) (eF.2 rfl) hst nJ
theorem Jc {K:Option OU} {T E:TypeId} {r:Rep α} {s:Nat} {k:IntKind} {x i:Operand} {xs:List α} {n:Int} {y:α} (hq:idx xs n=some y) (t:fU P E r) (hT:P.underlying T=some (.slice E)) (ho:o.op = .indexAddr T x i) (hx:bF N x (Qh s)) (hi:bF N i (fV (Rep.int k) n)) :
  di P o N [(s,JQ K E r xs)] (fElS s (n.toNat * r.sz)) []:=by
 obtain ⟨h0,h1,_⟩:=iR hq
 intro κ B F L h a w hst hn hk _ next Q hnext _
 obtain ⟨e,_,hq⟩:=hk.1
 cases K with
 | none=>obtain ⟨_,rfl,_⟩:=hq;exact absurd h1 (Nat.not_lt_zero _)
 | some K =>
  obtain ⟨hv,_,_⟩:=hq
  have hx':a.eval x=a.gt s:=hx h a hn
  have hv':a.gt s=_:=hv
  unfold Oper.rJ
  have hb:0≤n∧n<xs.length:=by omega
  have:(execOp a.eval o).run P w = .ok (.value (.pointer (some ⟨K.b,K.pre.length+n.toNat * r.sz,none⟩))) w:=by
   simp [execOp,ho,hx',hv',eF.1 (hi h a hn),Instr.indexAt,asIntOf,run_underlying hT,hb,t.size,Addr.add_mid]
  rw [this]
  exact hnext _ h w L (nI.refl h) ⟨K.b,_,_,K.cap,hv',rfl⟩ hst nJ
theorem Sv {κ:Type} {B:Base} {h:H} {L:Nat→Option gq} {F:κ→Option gq} {w:World} (hst:St B h (Sum.elim L F) w) {s:Nat} {K:OU} {E:TypeId} {r:Rep α} {xs:List α}
  (hk:L s=some (EZ K E r xs)):∃ cs,w.heap[K.b]? = some (.cells (K.pre ++ cs ++ K.post).toArray E (0,0))∧tJ r h cs xs:=(hst.own (k:=Sum.inl s) hk).2
theorem LV {K:Option OU} {T E:TypeId} {r:Rep α} {q:Rep β} {s off m:Nat} {x:Operand} {xs:List α} {y:α} {get:α→β} {set:α→β→α} (hy:xs[m]? = some y) (l:Lens r q off get set) (t:fU P T q) (ho:o.op = .load T x) (hx:bF N x (fElS s (m * r.sz+off))) :
  di P o N [(s,JQ K E r xs)] (fV q (get y)) []:=by
 intro κ B F L h a w hst hn hk _ next Q hnext _
 obtain ⟨b,pp,len,cap,hd,hv⟩:=hx h a hn
 have hd':a.gt s=_:=hd
 obtain ⟨e,hL,hq⟩:=hk.1
 cases K with
 | none=>obtain ⟨_,rfl,_⟩:=hq;simp at hy
 | some K =>
  obtain ⟨hv',hc,rfl⟩:=hq
  rw [hd'] at hv';cases hv'
  obtain ⟨cs,hb,hr⟩:=Sv hst hL
  obtain ⟨p,c,q',rfl,hp,hcr,_⟩:=hr.get hy
  obtain ⟨p2,c2,q2,rfl,hp2,hc2,_⟩:=l h c y hcr
  unfold Oper.rJ
  have hrun:=uP (b:=K.b) (off:=K.pre.length+(m * r.sz+off)) (w:=w) t (q.len hc2) (fun j v hj=>by
   rw [xI _ _ _ _ _ _ hb]
   have hjl:=(List.getElem?_eq_some_iff.1 hj).1
   simp only [List.getElem?_toArray]
   rw [show K.pre ++ (p ++ (p2 ++ c2 ++ q2) ++ q') ++ K.post=(K.pre ++ p ++ p2) ++ (c2 ++ (q2 ++ q' ++ K.post)) by simp,List.getElem?_append_right (by simp;omega)]
   rw [show K.pre.length+(m * r.sz+off)+j - (K.pre ++ p ++ p2).length=j by simp;omega,List.getElem?_append_left hjl];exact hj)
  have:(execOp a.eval o).run P w = .ok (.value (pack q.agg c2)) w:=by simp [execOp,ho,hv,hrun]
  rw [this]
  exact hnext _ h w L (nI.refl h) ⟨c2,hc2,rfl⟩ hst nJ
theorem KH {K:Option OU} {T E:TypeId} {r:Rep α} {q:Rep β} {s off m:Nat} {x v:Operand} {xs:List α} {y:α} {z:β} {get:α→β} {set:α→β→α} {xs':List α} (hy:xs[m]? = some y) (l:Lens r q off get set) (t:fU P T q) (hd:o.dst=none) (ho:o.op = .store T x v)
    (hx:bF N x (fElS s (m * r.sz+off))) (hv:bF N v (fV q z)) (hs':xs'=xs.set m (set y z)):di P o N [(s,JQ K E r xs)] aQ.rD [(s,some (JQ K E r xs'))]:=by
  subst hs'
  intro κ B F L h a w hst hn hk _ next Q hnext _
  obtain ⟨b,pp,len,cap,hdv,hxv⟩:=hx h a hn
  have hd':a.gt s=_:=hdv
  obtain ⟨e,hL,hq⟩:=hk.1
  cases K with
  | none=>obtain ⟨_,rfl,_⟩:=hq;simp at hy
  | some K =>
    obtain ⟨hv',hc,rfl⟩:=hq
    rw [hd'] at hv';cases hv'
    obtain ⟨cs,hb,hr⟩:=Sv hst hL
    obtain ⟨c',hc',hvv⟩:=hv h a hn
    obtain ⟨p,c,q',rfl,hp,hcr,hset⟩:=hr.get hy
    obtain ⟨p2,c2,q2,rfl,hp2,hc2,Qo⟩:=l h c y hcr
    have hsh:K.pre ++ (p ++ (p2 ++ c2 ++ q2) ++ q') ++ K.post=(K.pre ++ p ++ p2) ++ c2 ++ (q2 ++ q' ++ K.post):=by simp
    have hsh':(K.pre ++ p ++ p2) ++ c' ++ (q2 ++ q' ++ K.post)=K.pre ++ (p ++ (p2 ++ c' ++ q2) ++ q') ++ K.post:=by simp
    have hb0:=hb
    rw [hsh] at hb
    have hrun:=qZ t hc' hb (q.len hc2)
    unfold Oper.rJ
    have hpl:(K.pre ++ p ++ p2).length=K.pre.length+(m * r.sz+off):=by simp;omega
    have:(execOp a.eval o).run P w = .ok .skip (w.setRow K.b ((K.pre ++ p ++ p2) ++ c' ++ (q2 ++ q' ++ K.post)).toArray):=by
      simp only [execOp,ho,hxv,hvv,← hpl,Sem.run_bind,hrun,Result.andThen_ok,Sem.run_pure]
    rw [this,hsh']
    obtain ⟨hcl,_⟩:=hst.own (k:=Sum.inl s) hL
    have hno:=(hcl (K.b,0) (by simp [EZ])).2.2
    have hrel:=hset h _ _ (nI.refl h) (Qo h c' z (nI.refl h) hc')
    have hmem:=wY w K.b (K.pre ++ (p ++ (p2 ++ c2 ++ q2) ++ q') ++ K.post).toArray (K.pre ++ (p ++ (p2 ++ c' ++ q2) ++ q') ++ K.post).toArray E hb0
    refine hnext undef h _ (set1 L s (EZ K E r (xs.set m (set y z)))) (nI.refl h) trivial ?_ ?_
    · refine hst.write (Sum.inl s) (e := EZ K E r xs) hL (b := K.b) (lo := 0) (by simp [EZ]) hmem (fun i hi => setRow_other w K.b i _ hi) (by simp [World.setRow]) rfl rfl rfl ?_ vg ?_
      · intro o' u hh;rw [hno o' (Nat.zero_le _)] at hh;cases hh
      · intro e' he
        rw [vk he]
        exact ⟨fun c hc=>hc,_,hmem,hrel⟩
    · rw [hd]
      exact qL ⟨by rw [List.length_set];exact hd',by rw [List.length_set];exact hc,rfl⟩

theorem St.swap {κ:Type} {B:Base} {h:H} {L:Nat→Option gq} {F:κ→Option gq} {w:World} (hst:St B h (Sum.elim L F) w) {s:Nat} {e e':gq} (hL:L s=some e)
  (hcl:∀ c ∈ e'.claims,∃ c0 ∈ e.claims,c0.1=c.1∧c0.2≤c.2) (hok:e'.ok h (World.mem w)):St B h (Sum.elim (set1 L s e') F) w:=by
 obtain ⟨hcl0,_⟩:=hst.own (k:=Sum.inl s) hL
 refine hst.step (Sum.inl s) (fun _=>False) (fun _ hb=>hb.elim) (Nat.le_refl _) rfl rfl rfl (fun _ _ _=>rfl) (nI.refl h) (fun _ _ _ _=>rfl) ?_ vg ?_
 ·rintro b o' v (hb | hb) hv
  ·exact hb.elim
  ·rw [hst.fresh hb] at hv;cases hv
 ·intro e1 he
  rw [vk he]
  refine ⟨fun c hc=>?_,hok⟩
  obtain ⟨c0,hc0,h1,h2⟩:=hcl c hc
  obtain ⟨_,h3,h4⟩:=hcl0 c0 hc0
  exact ⟨.inr ⟨_,hL,c0,hc0,h1⟩,by omega,fun o ho=>by rw [← h1];exact h4 o (by omega)⟩
theorem JR {L:Nat→Option gq} {s:Nat} {e:gq} (hL:L s=some e):set1 L s e=L:=by
 funext k;unfold set1;split
 ·rename_i hk;rw [hk,hL]
 ·rfl
theorem Oa {L:Nat→Option gq} {s:Nat} {e e':gq}:set1 (set1 L s e) s e'=set1 L s e':=by
 funext k;unfold set1;split <;> rfl
theorem vw {L:Nat→Option gq} {s:Nat} {e:gq}:set1 L s e s=some e:=by simp [set1]
def IB (s:Nat) (fx:aQ) (q0 q0':eP) {ι:Type} (q q':ι→eP):Prop :=
 ∀ (κ:Type) (B:Base) (F:κ→Option gq) (L:Nat→Option gq) (h:H) (w:World) (d v:Value) (e:gq),St B h (Sum.elim L F) w→L s=some e→q0 d e→fx.p h d v →
  ∃ k x,q k v x∧St B h (Sum.elim (set1 L s x) F) w∧∀ (h':H) (w':World) (x':gq),nI h h'→q' k v x'→St B h' (Sum.elim (set1 L s x') F) w'→∃ e',q0' d e'∧St B h' (Sum.elim (set1 L s e') F) w'
theorem IB.cp {s:Nat} {q0 q0':eP}:IB s (Qh s) q0 q0' (fun _:Unit=>q0) (fun _=>q0'):=by
 intro κ B F L h w d v e hst hL hq hv
 have hv:v=d:=hv
 subst hv
 exact ⟨(),e,hq,by rw [JR hL];exact hst,fun h' w' x' hle' hq' hst'=>⟨x',hq',hst'⟩⟩
theorem IB.arr {s:Nat} {E:TypeId} {r:Rep α} {xs xs':List α}:IB s (Qh s) (iC E r xs) (iC E r xs') (fun K:Option OU=>JQ K E r xs) (fun K=>JQ K E r xs'):=by
  intro κ B F L h w d v e hst hL hq hv
  have hv:v=d:=hv
  subst hv
  rcases hq with ⟨hv,rfl,rfl⟩ | ⟨b,cap,hv,hc,rfl⟩
  · refine ⟨none, oV, ⟨hv, rfl, rfl⟩, by rw [JR hL]; exact hst, fun h' w' x' hle' hq' hst' => ⟨x', ?_, hst'⟩⟩
    obtain ⟨h1,h2,h3⟩:=hq'
    exact .inl ⟨h1,h2,h3⟩
  · obtain ⟨cs,rest,hb,hr,hlen⟩:=JO hst hL
    refine ⟨some ⟨b,cap,[],rest⟩,EZ ⟨b,cap,[],rest⟩ E r xs,⟨by simpa using hv,hc,rfl⟩,
      hst.swap hL (fun c hc=>⟨c,by simpa [EZ,qM] using hc,rfl,Nat.le_refl _⟩) ⟨cs,by simpa [World.mem] using hb,hr⟩,fun h' w' x' hle' hq' hst'=>?_⟩
    obtain ⟨h1,h2,rfl⟩:=hq'
    obtain ⟨cs',hb',hr'⟩:=Sv hst' vw
    have hl:xs'.length=xs.length:=by rw [hv] at h1;injection h1 with _ h3 _;exact h3.symm
    refine ⟨qM b E r xs' cap,.inr ⟨b,cap,by rw [hl];exact hv,by omega,rfl⟩,?_⟩
    have:=hst'.swap (e':=qM b E r xs' cap) vw (fun c hc=>⟨c,by simpa [EZ,qM] using hc,rfl,Nat.le_refl _⟩) ⟨cs',rest,by simpa [World.mem] using hb',hr',by
      rw [← hlen,List.length_append,List.length_append,hr'.len,hr.len,hl]⟩
    rwa [Oa] at this
theorem tJ.split {r:Rep α} {h:H}:∀ {xs:List α} {cs:List Value} (n:Nat),tJ r h cs xs→n≤xs.length→∃ c d,cs=c ++ d∧tJ r h c (xs.take n)∧tJ r h d (xs.drop n):=by
 intro xs
 induction xs with
 | nil=>intro cs n k hn;exact ⟨[],cs,rfl,by simp [tJ],by simpa using k⟩
 | cons x xs ih =>
  intro cs n k hn
  cases n with
  | zero=>exact ⟨[],cs,rfl,rfl,k⟩
  | succ n =>
   obtain ⟨c,d,rfl,hc,hd⟩:=k
   obtain ⟨c',d',rfl,hc',hd'⟩:=ih n hd (by simpa using hn)
   exact ⟨c ++ c',d',by simp,⟨c,c',rfl,hc,hc'⟩,hd'⟩
def UA (P:Program) (f:FuncId) (args:List aQ) (i:Nat) (q q':eP) (post:aQ):Prop :=
 ∀ (κ:Type) (B:Base) (L:κ→Option gq) (h:H) (w:World) (vs:List Value) (x:gq) (v:Value),St B h (Sum.elim (fun _:Unit=>some x) L) w→args.length=vs.length→vs[i]? = some v→q v x →
  (∀ (j:Nat) (g:aQ) (u:Value),args[j]? = some g→vs[j]? = some u→g.p h undef u) →
  Calls P f vs.toArray w (fun e w'=>∃ u h' x',e = .returned u∧nI h h'∧St B h' (Sum.elim (fun _:Unit=>some x') L) w'∧post.p h' undef u∧q' v x')
def Qu (P:Program) (fn:Func) {κ:Type} (B:Base) (h0:H) (F:κ→Option gq) (v:Value) (q':eP) (post:aQ):Exit→Act→World→Prop :=
 fun e a w=>B.df=[]→KG P fn (fun e w'=>∃ u h' x',e = .returned u∧nI h0 h'∧St B h' (Sum.elim (fun _:Unit=>some x') F) w'∧post.p h' undef u∧q' v x') e a w
theorem St.enter {κ:Type} {B:Base} {h:H} {F:κ→Option gq} {w:World} {x:gq} (i:Nat) (hst:St B h (Sum.elim (fun _:Unit=>some x) F) w):St B h (Sum.elim (fun k=>if k=i then some x else none) F) w:=by
 refine hst.FX (fun k=>match k with | .inl _=>.inl () | .inr k=>.inr k) ?_ ?_
 ·intro k e hk
  cases k with
  | inl k =>
   simp only [Sum.elim_inl] at hk
   split at hk
   ·exact hk
   ·cases hk
  | inr k=>exact hk
 ·intro k k' e e' hk hk' hne
  cases k with
  | inl k=>cases k' with
   | inl k' =>
    simp only [Sum.elim_inl] at hk hk'
    split at hk <;> split at hk'
    ·rename_i h1 h2;exact absurd (by rw [h1,h2]) hne
    ·cases hk'
    ·cases hk
    ·cases hk
   | inr k'=>intro he;cases he
  | inr k=>cases k' with
   | inl k'=>intro he;cases he
   | inr k'=>intro he;exact hne (by rw [Sum.inr.inj he])
theorem Vu {n:Nat} {f:FuncId} {fn:Func} {c:Code} {args:List aQ} {i:Nat} {q q':eP} {post:aQ} (hf:P.funcs[f]? = some fn) (hb:fn.body=some c) (hn:fn.ntmps=n) (vZ:(Nat.ble args.length n&&ul args)=true)
  (hwp:∀ (κ:Type) (B:Base) (h0:H) (F:κ→Option gq) (a:Act) (w:World) (vM:Value),At B h0 (Sm ((i,jk vM) :: Ia 0 args)) (NJ [(i,q)]) F n a w→c.rJ none P (Qu P fn B h0 F vM q' post) a w):UA P f args i q q' post:=by
 intro κ B L h w vs x v hst hl hvi hq hargs
 rw [Bool.and_eq_true,Nat.ble_eq] at vZ
 obtain ⟨hlen,hdp⟩:=vZ
 have BL:=og hdp
 have hget:∀ (j:Nat) u,vs[j]? = some u→Act.gt { tmps:=vs.toArray ++ Array.replicate (fn.ntmps - vs.toArray.size) undef,defers:=[] } j=u:=by
  intro j u hu
  have hj:=(List.getElem?_eq_some_iff.1 hu).1
  simp only [Act.gt,Array.getD_eq_getD_getElem?]
  rw [Array.getElem?_append_left (by simpa using hj)]
  simp [hu]
 refine BK rfl hf hb (hwp _ B.e h L _ w v ⟨h,_,nI.refl h,(hst.enter i).toE,?_,?_,?_,rfl⟩) (fun _ _ ⟨v,h',x,he,hl,hs,hp⟩=>⟨v,h',x,he,hl,hs.ofE,hp⟩)
 ·intro s q1 hs
  simp only [NJ,Za] at hs
  cases hk:Nat.beq i s with
  | true =>
   rw [hk] at hs;cases hs
   rw [iQ] at hk;subst hk
   exact ⟨x,by simp,by rw [hget _ _ hvi];exact hq⟩
  | false=>rw [hk] at hs;cases hs
 ·intro s
  show (bif Nat.beq i s then _ else Qi (Ia 0 args) s).at _ _ _
  cases hk:Nat.beq i s with
  | true =>
   rw [iQ] at hk;subst hk
   exact hget _ _ hvi
  | false =>
   rw [cond_false]
   rcases Ho args 0 s with h1 | ⟨j,g,h1,h2,h3⟩
   ·rw [h1];exact trivial
   ·rw [h3]
    have hj:=(List.getElem?_eq_some_iff.1 h1).1
    have hv:vs[j]? = some vs[j]:=List.getElem?_eq_getElem (by omega)
    have:=hargs j g _ h1 hv
    unfold aQ.at aQ.dv
    rw [BL g (List.mem_of_getElem? h1),h2,Nat.zero_add,hget _ _ hv]
    exact this
 ·simp;omega
section
variable {κ:Type} {B:Base} {h h0:H} {L:Nat→Option gq} {Γ:Ctx} {Λ:Own} {F:κ→Option gq} {n:Nat} {a:Act} {w:World} {q:eP} {i:Nat} {v:Value}
theorem At.own1 (hi:Γ i=jk v) (hs:Λ i=some q) (hAt:At B h0 Γ Λ F n a w):∃ h L x,nI h0 h∧St B h (Sum.elim L F) w∧LP Λ L a∧Sat Γ h a∧a.defers=B.df∧St B h (Sum.elim (fun _:Unit=>some x) F) w∧q v x:=by
 obtain ⟨h,L,hl,hst,vN,oO,_,hdf⟩:=hAt
 obtain ⟨e,hL,hq⟩:=vN i q hs
 have:=oO i
 rw [hi] at this
 have hv:a.gt i=v:=this
 rw [hv] at hq
 exact ⟨h,L,e,hl,hst,vN,oO,hdf,hst.one i hL,hq⟩
theorem retM0 {fn:Func} (hr:fn.results = #[]) (hi:Γ i=jk v) (hs:Λ i=some q) (hAt:At B h0 Γ Λ F n a w):Qu P fn B h0 F v q fT0 .ret a w:=by
 obtain ⟨h,L,x,hl,hst,vN,oO,hdf,hst',hq⟩:=hAt.own1 hi hs
 exact fun hB=>.inl ⟨hdf.trans hB,.tuple #[],by simp [results,hr],_,h,x,rfl,hl,hst',rfl,hq⟩
end
theorem St.out {κ:Type} {B:Base} {h:H} {L:Nat→Option gq} {F:κ→Option gq} {w:World} {x:gq} {s:Nat} (hst:St B h (Sum.elim (set1 L s x) F) w) :
  St B h (Sum.elim (fun _:Unit=>some x) (Sum.elim (fun k=>if k=s then none else L k) F)) w:=by
 refine hst.FX (fun k=>match k with | .inl _=>.inl s | .inr (.inl k)=>.inl k | .inr (.inr k)=>.inr k) ?_ ?_
 ·intro k e hk
  cases k with
  | inl k=>simpa [set1] using hk
  | inr k=>cases k with
   | inl k =>
    simp only [Sum.elim_inr,Sum.elim_inl] at hk
    split at hk
    ·cases hk
    ·rename_i hne;simpa [set1,hne] using hk
   | inr k=>exact hk
 ·intro k k' e e' hk hk' hne
  have key:∀ (j:Nat) (e:gq),(if j=s then none else L j)=some e→j≠s:=fun j e hj hjs=>by rw [if_pos hjs] at hj;cases hj
  cases k with
  | inl k=>cases k' with
   | inl k'=>exact absurd rfl hne
   | inr k'=>cases k' with
    | inl k'=>intro he;exact key _ _ hk' (Sum.inl.inj he).symm
    | inr k'=>intro he;cases he
  | inr k=>cases k with
   | inl k=>cases k' with
    | inl k'=>intro he;exact key _ _ hk (Sum.inl.inj he)
    | inr k'=>cases k' with
     | inl k'=>intro he;exact hne (by rw [Sum.inl.inj he])
     | inr k'=>intro he;cases he
   | inr k=>cases k' with
    | inl k'=>intro he;cases he
    | inr k'=>cases k' with
     | inl k'=>intro he;cases he
     | inr k'=>intro he;exact hne (by rw [Sum.inr.inj he])
theorem St.into {κ : Type} {B : Base} {h : H} {L : Nat → Option gq} {F : κ → Option gq} {w : World} {x : gq} {s : Nat} (hst : St B h (Sum.elim (fun _ : Unit => some x) (Sum.elim (fun k => if k = s then none else L k) F)) w) :
    St B h (Sum.elim (set1 L s x) F) w:=by
  refine hst.FX (fun k=>match k with | .inl k=>if k=s then .inl () else .inr (.inl k) | .inr k=>.inr (.inr k)) ?_ ?_
  · intro k e hk
    cases k with
    | inr k=>exact hk
    | inl k =>
      by_cases hks:k=s
      · subst hks;simp [set1] at hk;simp [hk]
      · simp [set1,hks] at hk;simp [hks,hk]
  · intro k k' e1 e2 h1 h2 hne
    cases k with
    | inr k=>cases k' with
      | inr k'=>intro he;exact hne (by rw [Sum.inr.inj (Sum.inr.inj he)])
      | inl k'=>intro he;simp only [] at he;split at he <;> cases he
    | inl k=>cases k' with
      | inr k'=>intro he;simp only [] at he;split at he <;> cases he
      | inl k' =>
        have hne':k≠k':=fun x=>hne (by rw [x])
        simp only []
        intro he
        split at he <;> split at he
        · rename_i h3 h4;exact hne' (h3.trans h4.symm)
        · cases he
        · cases he
        · exact hne' (Sum.inl.inj (Sum.inr.inj he))
theorem Sz {x:Operand}:bF N x aQ.rD:=fun _ _ _=>trivial
theorem DI {s:Nat}:bF N (.tmp s) (Qh s):=fun _ _ _=>rfl
theorem W9 {s i:Nat} {ι:Type} {q0 q0':eP} {q q':ι→eP} {fx:aQ} {f:FuncId} {fn:Func} {args:List aQ} {post:aQ} {xs:Array Operand} {ts:Array TypeId} {y:Operand}
  (hc:∀ k,UA P f args i (q k) (q' k) post) (hb:IB s fx q0 q0' q q') (hfx:fx.dep=some s) (hf:P.funcs[f]? = some fn) (hbd:uQ fn=true) (hd:ul (post :: args)=true) (hds:Qq o.dst s=true)
  (ho:o.op = .call { callee:=.value (.func f),args:=xs,argTypes:=ts }) (hy:xs.toList[i]? = some y) (hyx:bF N y fx) (hargs:xg N args xs.toList):di P o N [(s,q0)] post [(s,some q0')]:=by
 intro κ B F L h a w hst hn hk hdn next Q hnext _
 obtain ⟨e,hL,hq⟩:=hk.1
 have hL:L s=some e:=hL
 have hvx:=hyx h a hn
 unfold aQ.dv at hvx
 rw [hfx] at hvx
 obtain ⟨k,x,hqx,hst1,hback⟩:=hb κ B F L h w (a.gt s) (a.eval y) e hst hL hq hvx
 simp only [uQ,Bool.and_eq_true,Bool.not_eq_true'] at hbd
 have hbody:fn.body≠none:=by
  intro hx;rw [hx] at hbd;cases hbd.1
 have hname:fn.name ≠ "runtime.NumGoroutine":=by simpa using hbd.2
 have hdp:=og hd
 obtain ⟨hlen,hall⟩:=hargs.spec
 unfold Oper.rJ
 have:(execOp a.eval o).run P w = .ok (.enter f (xs.toList.map a.eval).toArray) w:=by
  have e:(xs.toList.map a.eval).toArray=xs.map a.eval:=by apply Array.ext';simp
  rw [e]
  simp [execOp,ho,resolve,Act.eval,Deferred.ofValue,invoke,callFunc,hf,hname,hbody]
 rw [this,Ec]
 refine (hc k _ B _ h w (xs.toList.map a.eval) x (a.eval y) hst1.out (by rw [List.length_map];exact hlen) (by rw [List.getElem?_map,hy];rfl) hqx ?_).mono ?_
 ·intro j g v hg hv
  rw [List.getElem?_map] at hv
  cases hx:xs.toList[j]? with
  | none=>rw [hx] at hv;cases hv
  | some x =>
   rw [hx] at hv;cases hv
   have:=hall j g x hg hx h a hn
   unfold aQ.dv at this
   rw [hdp g (List.mem_cons_of_mem _ (List.mem_of_getElem? hg))] at this
   exact this
 ·rintro e w' ⟨v,h',x',rfl,hl,hst',hp,hq'⟩
  obtain ⟨e',hq0',hst4⟩:=hback h' w' x' hl hq' hst'.into
  refine hnext v h' w' _ hl ?_ hst4 ?_
  ·unfold aQ.dv
   rw [hdp post List.mem_cons_self]
   exact hp
  ·refine qL ?_
   rw [Ah (by
    intro hd;unfold Qq at hds;rw [hd] at hds
    simp [Nat.beq_refl] at hds)]
   exact hq0'
end Go.KB
