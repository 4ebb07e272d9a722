/- Appending, making, cutting slices; rows that are written. Rows that are made and written; cuts of slices; texts; comparisons. Texts; comparisons of bools and structs. Branches, loops, calls, returns. Function values; functions that hand a row back; a slice against nil. Functions that write what the caller owns: a row, a part of a row, a variable. No condition. -/
import Derived.Test.YtehmpjjbmldcnaaKZa
import Derived.Laws.StructEq
import Derived.Laws.Strings
import Derived.WalkSpells
import Derived.Lib.BufferMore
namespace Go.KB
variable {P:Program} {o:Oper} {N:List (Nat×aO)} {f:aO} {α β:Type}
def mv (L:Nat→Option gQ) (s d:Nat):Nat→Option gQ:=fun k=>if k=d then L s else if k=s then none else L k
theorem St.mv {κ:Type} {B:Base} {h:H} {L:Nat→Option gQ} {F:κ→Option gQ} {w:World} (hst:St B h (Sum.elim L F) w) (s d:Nat):St B h (Sum.elim (mv L s d) F) w:=by
 refine hst.Dc (fun k=>match k with | .inr k=>.inr k | .inl k=>if k=d then .inl s else .inl k) ?_ ?_
 ·intro k' e hk
  cases k' with
  | inr k=>exact hk
  | inl k =>
   simp only [Sum.elim_inl,KB.mv] at hk
   simp only []
   split at hk
   ·rename_i h1;rw [if_pos h1];exact hk
   ·rename_i h1
    rw [if_neg h1]
    split at hk
    ·cases hk
    ·exact hk
 ·intro k k' e e' hk hk' hne
  cases k with
  | inr k=>cases k' with
   | inr k'=>intro he;exact hne he
   | inl k'=>intro he;simp only [] at he;split at he <;> cases he
  | inl k=>cases k' with
   | inr k'=>intro he;simp only [] at he;split at he <;> cases he
   | inl k' =>
    simp only [Sum.elim_inl,KB.mv] at hk hk'
    have hne':k≠k':=fun x=>hne (by rw [x])
    simp only []
    intro he
    split at he <;> split at he
    ·rename_i h1 h2;exact hne' (h1.trans h2.symm)
    ·rename_i h1 h2
     have:=Sum.inl.inj he
     rw [if_neg h2,if_pos this.symm] at hk';cases hk'
    ·rename_i h1 h2
     have:=Sum.inl.inj he
     rw [if_neg h1,if_pos this] at hk;cases hk
    ·exact hne' (Sum.inl.inj he)
theorem Jl {L0 L:Nat→Option gQ} {s d:Nat} {e:gQ} {q:gK} {a:Act} (hL0:∀ k,k≠s→L k=L0 k) (hsd:s≠d) (hL:L s=some e) (hq:q (a.gt d) e):DJ L0 (mv L s d) (full [(s,none),(d,some q)] (some d)) a:=by
  intro k
  have QA:Nat.beq s d=false:=by rw [Bool.eq_false_iff,Ne,kL];exact hsd
  by_cases hk:k=d
  · subst hk
    have:oz (full [(s,none),(k,some q)] (some k)) k=some (some q):=by simp [full,oz,QA,Nat.beq_refl]
    rw [this];exact ⟨e,by simp [mv,hL],hq⟩
  · by_cases hks : k = s
    · subst hks
      have:oz (full [(k,none),(d,some q)] (some d)) k=some none:=by simp [full,oz,Nat.beq_refl]
      rw [this];trivial
    · have h1 : Nat.beq s k = false := by rw [Bool.eq_false_iff, Ne, kL]; exact fun x => hks x.symm
      have h2:Nat.beq d k=false:=by rw [Bool.eq_false_iff,Ne,kL];exact fun x=>hk x.symm
      have:oz (full [(s,none),(d,some q)] (some d)) k=none:=by simp [full,oz,h1,h2]
      rw [this];simp only [mv,hk,hks,if_false];exact hL0 k hks
theorem Ij {L:Nat→Option gQ} {s d:Nat} {e:gQ} {q:gK} {a:Act} (hsd:s≠d) (hL:L s=some e) (hq:q (a.gt d) e):DJ L (mv L s d) (full [(s,none),(d,some q)] (some d)) a:=Jl (fun _ _=>rfl) hsd hL hq
theorem bG {q:gK} {s d:Nat} (hsd:Nat.beq s d=false) (hd:o.dst=some d) (ho:o.op = .move (.tmp s)∨o.op = .assign (.tmp s)) (hx:bJ N (.tmp s) f):dw P o N [(s,q)] f [(s,none),(d,some q)]:=by
 intro κ B F L h a w hst hn hk hdn next Q hnext _
 obtain ⟨e,hL,hq⟩:=hk.1
 have hne:s≠d:=fun x=>by rw [kL.2 x] at hsd;cases hsd
 unfold Oper.oK
 have:(execOp a.eval o).run P w = .ok (.value (a.gt s)) w:=by rcases ho with ho | ho <;> (simp [execOp,ho,Act.eval,Act.gt])
 rw [this]
 refine hnext _ h w _ (lD.refl h) (hx h a hn) (hst.mv s d) ?_
 rw [hd]
 exact Ij hne hL (by rw [fO (hdn d hd)];exact hq)
theorem eX {E:TypeId} {r:Rep α} {sz d:Nat} (hd:o.dst=some d) (ho:o.op = .assign (.const (.slice none 0 0))∨o.op = .move (.const (.slice none 0 0))):dw P o N [] (fV (Rep.slice r) []) [(d,some (fH E sz))]:=by
 intro κ B F L h a w hst hn _ hdn next Q hnext _
 unfold Oper.oK
 have:(execOp a.eval o).run P w = .ok (.value (.slice none 0 0)) w:=by rcases ho with ho | ho <;> (simp [execOp,ho];rfl)
 rw [this]
 have hst':St B h (Sum.elim (set1 L d kM) F) w:=by
  refine hst.step (Sum.inl d) (fun _=>False) (fun b hb=>hb.elim) (Nat.le_refl _) rfl rfl rfl (fun _ _ _=>rfl) (lD.refl h) (fun _ _ _ _=>rfl) ?_ qw ?_
  ·rintro b o' v (hb | hb) hv
   ·exact hb.elim
   ·rw [hst.fresh hb] at hv;cases hv
  ·intro e' he;rw [qx he];exact ⟨fun c hc=>(by cases hc),trivial⟩
 refine hnext _ h w _ (lD.refl h) (jR.2 (.inl ⟨⟨none,rfl⟩,rfl⟩)) hst' ?_
 rw [hd]
 exact lH (.inl ⟨none,0,fO (hdn d hd),rfl⟩)
def lim:Nat:=2 ^ 37
def app (xs ys:List α):Option (List α):=bif Nat.ble (xs.length+ys.length) lim then some (xs ++ ys) else none
theorem OW {xs ys zs:List α} (h:app xs ys=some zs):zs=xs ++ ys∧xs.length+ys.length≤lim:=by
 unfold app at h
 cases hb:Nat.ble (xs.length+ys.length) lim with
 | true=>rw [hb] at h;cases h;exact ⟨rfl,Nat.le_of_ble_eq_true hb⟩
 | false=>rw [hb] at h;cases h
theorem Aj {T ty E:TypeId} {i:TypeInfo} (w:World) (ht:P.underlying T=some (.slice E)) (hi:P.info? E=some i) (g off sLen sCap:Nat) (cur:Array Value) (hg:w.heap[g]? = some (.cells cur E (0,0)))
  (a:Addr) (m c:Nat) (news:List Value) (hl:news.length=m * i.size) (hnews:∀ j u,news[j]? = some u→w.cell? (a.add j)=some u) (h1:∀ u ∈ news,u.oneCell'=true) (hroom:sLen+m≤sCap) (hfit:off+sLen * i.size+news.length≤cur.size) :
  (Builtin.append_ #[T,T] ty #[.slice (some ⟨g,off,none⟩) sLen sCap,.slice (some a) m c]).run P w =
   .ok (.slice (some ⟨g,off,none⟩) (sLen+m) sCap) (w.setRow g (cur.toList.take (off+sLen * i.size) ++ news ++ cur.toList.drop (off+sLen * i.size+news.length)).toArray):=by
 have hf:=run_firstCells_some (P:=P) w i.size m a m c news hl hnews
 have hst:=run_storeCells_at P g (off+sLen * i.size) E news 0 cur w hg (by simpa using hfit) h1
 simp only [Nat.add_zero] at hst
 simp [Builtin.append_,run_underlying ht,sizeOf,typeInfo,hi,Builtin.lenOf,hroom,hf,Addr.add_mid,hst]
theorem run_append_nothing {T ty E:TypeId} {i:TypeInfo} (w:World) (ht:P.underlying T=some (.slice E)) (hi:P.info? E=some i) (base:Option Addr) (sLen sCap:Nat) (hl:sLen≤sCap) (y:Option Addr) (c:Nat) :
  (Builtin.append_ #[T,T] ty #[.slice base sLen sCap,.slice y 0 c]).run P w = .ok (.slice base sLen sCap) w:=by
 have hf:(Builtin.firstCells i.size 0 (.slice y 0 c)).run P w = .ok #[] w:=by
  cases y with
  | none=>rfl
  | some a=>simp [Builtin.firstCells,loadCells,loadCellsFrom]
 cases base with
 | none=>simp [Builtin.append_,run_underlying ht,sizeOf,typeInfo,hi,Builtin.lenOf,hl,hf]
 | some b=>simp [Builtin.append_,run_underlying ht,sizeOf,typeInfo,hi,Builtin.lenOf,hl,hf,storeCells]
theorem uh.le {r:Rep α} {h:H} {v:Value} {xs:List α} (k:uh r h v xs):∃ base cap,v = .slice base xs.length cap∧xs.length≤cap:=by
 rcases k with ⟨⟨base,rfl⟩,rfl⟩ | ⟨b,off,cap,rfl,hc,_⟩
 ·exact ⟨base,0,rfl,Nat.le_refl _⟩
 ·exact ⟨_,cap,rfl,hc⟩
theorem zlen (z:Array Value) (n:Nat):(Builtin.zeroCells z n).toList.length=n * z.size:=by rw [Array.length_toList,size_zeroCells]
theorem Bj {L:Nat→Option gQ} {s d:Nat} {e:gQ} {q:gK} {a:Act} (hsd:s≠d) (hq:q (a.gt d) e):DJ L (set1 L d e) (full [(s,none),(d,some q)] (some d)) a:=by
  intro k
  have QA:Nat.beq s d=false:=by rw [Bool.eq_false_iff,Ne,kL];exact hsd
  by_cases hk:k=d
  · subst hk
    have:oz (full [(s,none),(k,some q)] (some k)) k=some (some q):=by simp [full,oz,QA,Nat.beq_refl]
    rw [this];exact ⟨e,by simp [set1],hq⟩
  · by_cases hks : k = s
    · subst hks
      have:oz (full [(k,none),(d,some q)] (some d)) k=some none:=by simp [full,oz,Nat.beq_refl]
      rw [this];trivial
    · have h1 : Nat.beq s k = false := by rw [Bool.eq_false_iff, Ne, kL]; exact fun x => hks x.symm
      have h2:Nat.beq d k=false:=by rw [Bool.eq_false_iff,Ne,kL];exact fun x=>hk x.symm
      have:oz (full [(s,none),(d,some q)] (some d)) k=none:=by simp [full,oz,h1,h2]
      rw [this];simp [set1,hk]

theorem St.grown {κ:Type} {B:Base} {h:H} {L:Nat→Option gQ} {F:κ→Option gQ} {w:World} (hst:St B h (Sum.elim L F) w) {r:Rep α} {cx cy:List Value} {xs ys:List α} (E:TypeId) (d cap:Nat) (hx:oC r h cx xs) (hy:oC r h cy ys) (hge:xs.length+ys.length≤cap) :
  ∃ h',lD h h'∧St B h' (Sum.elim (set1 L d (cellsE E w.heap.size ((xs.length+ys.length) * r.sz) (cap * r.sz))) F) (w.drew.alloc (.cells (cx.toArray ++ cy.toArray ++ Builtin.zeroCells (pack r.agg r.zc).cells (cap - (xs.length+ys.length))) E)) ∧
   uh r h' (.slice (some ⟨w.heap.size,0,none⟩) (xs.length+ys.length) cap) (xs ++ ys):=by
 have hzc:(pack r.agg r.zc).cells.size=r.sz:=by rw [ql (r.uy h)];simp [r.len (r.uy h)]
 have hxy:=hx.append hy
 obtain ⟨h',hle,hst',hsl⟩:=(hst.drawn (w.drawn+1) (Nat.le_succ _)).newRow (rest:=(Builtin.zeroCells (pack r.agg r.zc).cells (cap - (xs.length+ys.length))).toList) E d cap hxy (by
  rw [List.length_append,hxy.len,zlen,hzc,← Nat.add_mul,List.length_append];congr 1;omega) (by rw [List.length_append];exact hge)
 rw [List.length_append] at hst' hsl
 refine ⟨h',hle,?_,hsl⟩
 have:(cx.toArray ++ cy.toArray ++ Builtin.zeroCells (pack r.agg r.zc).cells (cap - (xs.length+ys.length)))=((cx ++ cy) ++ (Builtin.zeroCells (pack r.agg r.zc).cells (cap - (xs.length+ys.length))).toList).toArray:=by
  apply Array.ext';simp
 rw [this]
 exact hst'
theorem QE {T E : TypeId} {r : Rep α} (b0 : Bool) {s d : Nat} {y : Operand} {xs ys : List α} (hbb : ∀ i, P.info? E = some i → i.bytes ≤ 1024 → (xs.length + ys.length) * i.bytes ≤ 140737488355328) (h63 : xs.length + ys.length ≤ 9223372036854775807) (el : vX P E r) (hT : P.underlying T = some (.slice E)) (hsd : Nat.beq s d = false) (hd : o.dst = some d)
    (ho:o.op = .call { callee:=.builtin .append,args:=#[.tmp s,y],argTypes:=#[T,T] }) (hx:bJ N (.tmp s) (fV (Rep.slice r) xs)) (hy:bJ N y (fV (Rep.slice { r with fr:=b0 }) ys)) :
    dw P o N [(s,fH E r.sz)] (fV (Rep.slice r) (xs ++ ys)) [(s,none),(d,some (fH E r.sz))]:=by
  obtain ⟨i,hi,hsz,hby,hzero⟩:=el.out
  have hne:s≠d:=fun x=>by rw [kL.2 x] at hsd;cases hsd
  have hbytes:(xs.length+ys.length) * i.bytes≤140737488355328:=hbb i hi hby
  intro κ B F L h a w hst hn hk hdn next Q hnext _
  obtain ⟨e,hL,hq⟩:=hk.1
  have hL:L s=some e:=hL
  have hq:fH E r.sz (a.gt s) e:=hq
  have hxv:uh r h (a.gt s) xs:=jR.1 (hx h a hn)
  have hyv:=jR.1 (hy h a hn)
  have hrun:∀ v w',(Builtin.append_ #[T,T] o.type #[a.gt s,a.eval y]).run P w = .ok v w'→(execOp a.eval o).run P w = .ok (.value v) w':=by
    intro v w' hr
    have he:a.eval (.tmp s)=a.gt s:=rfl
    simp only [execOp,ho,resolve,invoke,builtin,Sem.run_bind,Sem.run_pure,Result.andThen_ok,List.map_toArray,List.map_cons,List.map_nil,he,hr]
  unfold Oper.oK
  -- nothing is appended
  by_cases hy0:ys=[]
  · subst hy0
    obtain ⟨base,cap,hv,hc⟩:=hxv.le
    obtain ⟨base',cap',hv',hc'⟩:=hyv.le
    rw [List.length_nil] at hv'
    rw [hrun _ _ (by rw [hv,hv'];exact run_append_nothing w hT hi base xs.length cap hc base' cap'),← hv]
    refine hnext _ h w _ (lD.refl h) (jR.2 (by rw [List.append_nil];exact hxv)) (hst.mv s d) ?_
    rw [hd]
    exact Ij hne hL (by rw [fO (hdn d hd)];exact hq)
  · have hypos:0<ys.length:=List.length_pos_iff.2 hy0
    rcases hyv with ⟨_,rfl⟩ | ⟨TW,Jf,LC,IV,_,UJ⟩
    · exact absurd rfl hy0
    obtain ⟨cy,hcy,YT⟩:=uh.cells UJ
    have hcy:oC r h cy ys:=hcy.fr
    have hnews:∀ j u,cy[j]? = some u→w.cell? ((⟨TW,Jf,none⟩:Addr).add j)=some u:=fun j u hj=>by rw [Addr.add_mid];exact hst.ext (YT j u hj)
    have NJ:cy.length=ys.length * i.size:=by rw [hcy.len,hsz]
    rcases hxv with ⟨⟨base,hxval⟩,rfl⟩ | ⟨b,off,cap,hxval,hcap,hxref⟩
    · -- onto nil
      simp only [List.length_nil,Nat.zero_add] at hbytes h63
      have hr:∃ v w',(Builtin.append_ #[T,T] o.type #[.slice base 0 0,.slice (some ⟨TW,Jf,none⟩) ys.length LC]).run P w = .ok v w'∧v = .slice (some ⟨w.heap.size,0,none⟩) ys.length (grownCap w ys.length 0 E) ∧
          w'=w.drew.alloc (.cells (cy.toArray ++ Builtin.zeroCells (pack r.agg r.zc).cells (grownCap w ys.length 0 E - ys.length)) E):=by
        cases base with
        | none=>exact ⟨_,_,run_append_nil (P:=P) w T o.type E i _ hT hi hzero ⟨TW,Jf,none⟩ ys.length LC cy NJ hnews hypos (by omega) (by omega),rfl,rfl⟩
        | some a0 =>
          have hr:=run_append_grow (P:=P) w T o.type E i _ hT hi hzero a0 0 0 [] (by simp) (fun j u hj=>by simp at hj) ⟨TW,Jf,none⟩ ys.length LC cy NJ hnews (by omega) (by omega) (growslice_fits (by omega) (by simpa using hbytes))
          rw [Nat.zero_add] at hr
          exact ⟨_,_,hr,rfl,by simp⟩
      obtain ⟨v,w',hr,rfl,rfl⟩:=hr
      rw [hrun _ _ (by rw [hxval,IV];exact hr)]
      obtain ⟨h',hle,hst',hsl⟩:=hst.grown (cx:=[]) (xs:=([]:List α)) E d (grownCap w ys.length 0 E) rfl hcy (by rw [List.length_nil,Nat.zero_add];exact grownCap_ge w ys.length 0 E)
      simp only [List.length_nil,Nat.zero_add] at hst' hsl
      have he:(#[]:Array Value) ++ cy.toArray=cy.toArray:=by simp
      rw [show ([]:List Value).toArray = #[] from rfl,he] at hst'
      refine hnext _ h' _ _ hle (jR.2 hsl) hst' ?_
      rw [hd]
      exact Bj hne (.inr ⟨_,0,_,_,fO (hdn d hd),by simp⟩)
    · obtain ⟨cx,hcx,hcxh⟩:=uh.cells hxref
      by_cases hroom:xs.length+ys.length≤cap
      · -- in its place
        rcases hq with ⟨base1,len1,h1,_⟩ | ⟨b1,off1,len1,cap1,h1,h2⟩
        · rw [hxval] at h1
          injection h1 with _ h3 h4
          omega
        rw [hxval] at h1;cases h1
        rw [h2] at hL
        obtain ⟨hcl,cs,hb,hhi⟩:=hst.own (k:=Sum.inl s) hL
        have hno:=(hcl (b,off+xs.length * r.sz) (by simp [cellsE])).2.2
        have hb':w.heap[b]? = some (.cells cs E (0,0)):=hb
        have XV:=hcy.len
        have hmul:(xs.length+ys.length) * r.sz≤cap * r.sz:=Nat.mul_le_mul_right _ hroom
        rw [Nat.add_mul] at hmul
        have hfit:off+xs.length * r.sz+cy.length≤cs.size:=by omega
        have hr:=Aj (P:=P) (ty:=o.type) w hT hi b off xs.length cap cs hb' ⟨TW,Jf,none⟩ ys.length LC cy NJ hnews hcy.flat hroom (by rw [hsz];exact hfit)
        rw [hsz] at hr
        rw [hrun _ _ (by rw [hxval,IV];exact hr)]
        generalize hc2:(cs.toList.take (off+xs.length * r.sz) ++ cy ++ cs.toList.drop (off+xs.length * r.sz+cy.length)).toArray=cs2
        have hsz2:cs2.size=cs.size:=by rw [← hc2];simp;omega
        have hlow:∀ o',o'<off+xs.length * r.sz→cs2[o']? = cs[o']?:=by
          intro o' ho'
          rw [← hc2]
          simp only [List.getElem?_toArray,List.append_assoc]
          rw [List.getElem?_append_left (by simp;omega),List.getElem?_take,if_pos ho']
          simp
        have hmid:∀ j v,cy[j]? = some v→cs2[off+xs.length * r.sz+j]? = some v:=by
          intro j v hj
          have hjl:=(List.getElem?_eq_some_iff.1 hj).1
          rw [← hc2]
          simp only [List.getElem?_toArray,List.append_assoc]
          rw [List.getElem?_append_right (by simp;omega)]
          have:(List.take (off+xs.length * r.sz) cs.toList).length=off+xs.length * r.sz:=by simp;omega
          rw [this,Nat.add_sub_cancel_left,List.getElem?_append_left hjl];exact hj
        have hw2:(w.setRow b cs2).heap[b]? = some (.cells cs2 E (0,0)):=setRow_heap w b cs cs2 E (0,0) hb'
        have hst1:St B h (Sum.elim L F) (w.setRow b cs2):=by
          refine hst.write (Sum.inl s) (e:=cellsE E b (off+xs.length * r.sz) (off+cap * r.sz)) hL (b:=b) (lo:=off+xs.length * r.sz) (by simp [cellsE]) hw2 (fun k hk'=>setRow_other w b k cs2 hk') (by simp [World.setRow]) rfl rfl rfl ?_ (fun _ _ _ x=>x) ?_
          · intro o' v hv
            have ho':o'<off+xs.length * r.sz:=Nat.lt_of_not_le fun hge=>by rw [hno o' hge] at hv;cases hv
            rw [hlow o' ho']
            have:=hst.ext hv
            rwa [uQ _ _ _ _ _ _ hb'] at this
          · intro e' he'
            have:e'=cellsE E b (off+xs.length * r.sz) (off+cap * r.sz):=by simpa [hL] using he'.symm
            rw [this]
            exact ⟨fun c hc=>hc,cs2,hw2,by rw [hsz2];exact hhi⟩
        obtain ⟨hle, hst2⟩ := hst1.freeze (Sum.inl s) (e := cellsE E b (off + xs.length * r.sz) (off + cap * r.sz)) hL (b := b) (lo := off + xs.length * r.sz) (by simp [cellsE]) hw2 (off + (xs.length + ys.length) * r.sz) (by rw [hsz2, Nat.add_mul]; omega)
          (L':=Sum.elim (set1 L s (cellsE E b (off+(xs.length+ys.length) * r.sz) (off+cap * r.sz))) F) qw (by
            intro e' he'
            rw [qx he']
            refine ⟨?_,cs2,hw2,by rw [hsz2];exact hhi⟩
            intro q hq
            simp [cellsE] at hq
            subst hq
            exact ⟨⟨(b,off+xs.length * r.sz),by simp [cellsE],rfl,by simp only [Nat.add_mul];omega⟩,fun _=>Nat.le_refl _⟩)
        have hst3:=hst2.mv s d
        have hh:∀ j v,(cx ++ cy)[j]? = some v→hadd h b (cs2.toList.take (off+(xs.length+ys.length) * r.sz)) b (off+j)=some v:=by
          intro j v hj
          have hjl:=(List.getElem?_eq_some_iff.1 hj).1
          rw [List.length_append,hcx.len,XV] at hjl
          have hlen2:(cs2.toList.take (off+(xs.length+ys.length) * r.sz)).length=off+(xs.length+ys.length) * r.sz:=by
            rw [List.length_take,show cs2.toList.length=cs.size from hsz2,Nat.add_mul];omega
          have hlt:off+j<(cs2.toList.take (off+(xs.length+ys.length) * r.sz)).length:=by rw [hlen2,Nat.add_mul];omega
          rw [yH hlt,← List.getElem?_eq_getElem hlt,List.getElem?_take,if_pos (by rw [hlen2] at hlt;exact hlt)]
          rw [Array.getElem?_toList]
          by_cases hjx:j<cx.length
          · rw [List.getElem?_append_left hjx] at hj
            rw [hcx.len] at hjx
            rw [hlow _ (by omega)]
            have:=hst.ext (hcxh j v hj)
            rwa [uQ _ _ _ _ _ _ hb'] at this
          · rw [List.getElem?_append_right (by omega)] at hj
            have:=hmid _ v hj
            rw [hcx.len] at this hjx
            rwa [show off+xs.length * r.sz+(j - xs.length * r.sz)=off+j from by omega] at this
        refine hnext _ _ _ _ hle (jR.2 (.inr ⟨b,off,cap,by rw [List.length_append],by rw [List.length_append];exact hroom,?_,fun _=>hst.mo (k:=Sum.inl s) hL (c:=(b,off+xs.length * r.sz)) (by simp [cellsE])⟩)) hst3 ?_
        · exact ((hcx.append hcy).mono hle).refs hh
        · rw [hd]
          exact Jl (fun k hk=>by simp [set1,hk]) hne (by simp [set1]) (.inr ⟨b,off,xs.length+ys.length,cap,fO (hdn d hd),rfl⟩)
      · -- in a new array
        have hr:=run_append_grow (P:=P) w T o.type E i _ hT hi hzero ⟨b,off,none⟩ xs.length cap cx (by rw [hcx.len,hsz]) (fun j u hj=>by rw [Addr.add_mid];exact hst.ext (hcxh j u hj)) ⟨TW,Jf,none⟩ ys.length LC cy NJ hnews (by omega) (by omega) (growslice_fits (by omega) hbytes)
        rw [hrun _ _ (by rw [hxval,IV];exact hr)]
        obtain ⟨h',hle,hst',hsl⟩:=hst.grown E d (grownCap w (xs.length+ys.length) cap E) hcx hcy (grownCap_ge w _ cap E)
        refine hnext _ h' _ _ hle (jR.2 hsl) hst' ?_
        rw [hd]
        exact Bj hne (.inr ⟨_,0,_,_,fO (hdn d hd),by simp⟩)
theorem jZ {T E:TypeId} {r:Rep α} {s d:Nat} {y:Operand} {xs ys zs:List α} (hz:app xs ys=some zs) (el:vX P E r) (hT:P.underlying T=some (.slice E)) (hsd:Nat.beq s d=false) (hd:o.dst=some d)
  (ho:o.op = .call { callee:=.builtin .append,args:=#[.tmp s,y],argTypes:=#[T,T] }) (hx:bJ N (.tmp s) (fV (Rep.slice r) xs)) (hy:bJ N y (fV (Rep.slice r) ys)) :
  dw P o N [(s,fH E r.sz)] (fV (Rep.slice r) zs) [(s,none),(d,some (fH E r.sz))]:=by
 obtain ⟨rfl,hlim⟩:=OW hz
 exact QE r.fr (fun i _ hby=>by have:=Nat.mul_le_mul hlim hby;unfold lim at this;omega) (by unfold lim at hlim;omega) el hT hsd hd ho hx hy
end Go.KB
namespace Go.KB
variable {P:Program} {o:Oper} {N:List (Nat×aO)} {f:aO} {α β:Type}
def jJ (b:Nat) (E:TypeId) (r:Rep α) (xs:List α) (cap:Nat):gQ where
 claims:=[(b,0)]
 ok:=fun h m=>∃ cs rest,m b=some (.cells (cs ++ rest).toArray E (0,0))∧oC r h cs xs∧(cs ++ rest).length=cap * r.sz
 mono:=by rintro h h' m hl ⟨cs,rest,e,k,l⟩;exact ⟨cs,rest,e,k.mono hl,l⟩
 frame:=fun hm ⟨cs,rest,e,k,l⟩=>⟨cs,rest,by rw [hm (b,0) (by simp)];exact e,k,l⟩
def bU (E:TypeId) (r:Rep α) (xs:List α):gK:=fun v e=>((∃ base,v = .slice base 0 0)∧xs=[]∧e=kM)∨∃ b cap,v = .slice (some ⟨b,0,none⟩) xs.length cap∧xs.length≤cap∧e=jJ b E r xs cap
def Ls (s:Nat):aO:=⟨some s,fun _ d v=>v=d,fun _ x=>x⟩
def Wj (s off:Nat):aO:=⟨some s,fun _ d v=>∃ b len cap,d = .slice (some ⟨b,0,none⟩) len cap∧v = .pointer (some ⟨b,off,none⟩),fun _ x=>x⟩
def mk (z:α) (m c:Int):Option (List α):=bif decide (0≤m)&&decide (m≤c)&&decide (c≤lim) then some (List.replicate m.toNat z) else none
theorem Ru {z:α} {m c:Int} {xs:List α} (h:mk z m c=some xs):0≤m∧m≤c∧c≤lim∧xs=List.replicate m.toNat z:=by
 unfold mk at h
 cases hb:(decide (0≤m)&&decide (m≤c)&&decide (c≤lim)) with
 | true=>rw [hb] at h;cases h;simp at hb;exact ⟨hb.1.1,hb.1.2,hb.2,rfl⟩
 | false=>rw [hb] at h;cases h
theorem D9 {n:Int} (h0:-9223372036854775808≤n) (h1:n≤9223372036854775807):IntKind.i64.wrap n=n:=IntWalk.i64_in _ ⟨h0,h1⟩
theorem run_makeSlice {T E:TypeId} {r:Rep α} {m c:Int} {k k':IntKind} (w:World) (el:vX P E r) (t:iV P E r) (hT:P.underlying T=some (.slice E)) (h0:0≤m) (h1:m≤c) (h2:c≤lim) :
  (Instr.makeSlice T (.int k m) (.int k' c)).run P w = .ok (.slice (some ⟨w.heap.size,0,none⟩) m.toNat c.toNat) (w.alloc (.cells (List.replicate c.toNat r.zc).flatten.toArray E)):=by
 obtain ⟨i,hi,hsz,hby,hzero⟩:=el.out
 have hz:(pack r.agg r.zc).cells=r.zc.toArray:=ql (r.uy ⟨fun _ _=>none,0⟩)
 have hzl:=r.len (r.uy ⟨fun _ _=>none,0⟩)
 have hl:(lim:Int)=137438953472:=rfl
 rw [hl] at h2
 have hwm:IntKind.i64.wrap m=m:=D9 (by omega) (by omega)
 have hwc:IntKind.i64.wrap c=c:=D9 (by omega) (by omega)
 have hb1:(i.bytes:Int) * c≤2 ^ 48:=by
  have h3:(i.bytes:Int)≤1024:=by omega
  have h4:(i.bytes:Int) * c≤1024 * c:=Int.mul_le_mul_of_nonneg_right h3 (by omega)
  omega
 have htl:(decide (c<0)||decide ((i.bytes:Int) * c > 2 ^ 48))=false:=by
  rw [Bool.or_eq_false_iff];exact ⟨by simp;omega,by simpa using hb1⟩
 unfold Instr.makeSlice
 simp only [Sem.run_bind,run_underlying hT,Result.andThen_ok,asInt,asIntOf,Sem.run_pure,typeInfo,run_program,hi,hwm,hwc]
 rw [if_neg (by rw [htl];simp;omega)]
 have hroom:(askRoom (c.toNat * i.bytes)).run P w = .ok () w:=by unfold askRoom;split <;> rfl
 simp only [Sem.run_bind,hroom,Result.andThen_ok,t.size]
 by_cases hn:c.toNat * r.sz=0
 ·have hnil:(List.replicate c.toNat r.zc).flatten=[]:=by
   apply List.eq_nil_of_length_eq_zero
   rw [List.length_flatten];simp [hzl,hn]
  simp only [hn,if_true,Sem.run_bind,Sem.run_pure,Result.andThen_ok,Array.range_zero',Array.map_empty,Cm,hnil]
 ·simp only [hn,if_false,Sem.run_bind,t.zero,Sem.run_pure,Result.andThen_ok,hz,OX,Cm]
theorem Me (r:Rep α) (m c:Nat) (hmc:m≤c):(List.replicate c r.zc).flatten=(List.replicate m r.zc).flatten ++ (List.replicate (c - m) r.zc).flatten:=by
 rw [← List.flatten_append,List.replicate_append_replicate];congr 2;omega
theorem Rk (r:Rep α) (c:Nat):(List.replicate c r.zc).flatten.length=c * r.sz:=by
 rw [List.length_flatten];simp [r.len (r.uy ⟨fun _ _=>none,0⟩)]
theorem qU {T E:TypeId} {r:Rep α} {m c:Int} {k k':IntKind} {x y:Operand} {xs:List α} {d:Nat} (hq:mk r.zero m c=some xs) (el:vX P E r) (t:iV P E r) (hT:P.underlying T=some (.slice E)) (hd:o.dst=some d) (ho:o.op = .makeSlice T x y)
  (hx:bJ N x (fV (Rep.int k) m)) (hy:bJ N y (fV (Rep.int k') c)):dw P o N [] aO.pX [(d,some (bU E r xs))]:=by
 obtain ⟨h0,h1,h2,rfl⟩:=Ru hq
 intro κ B F L h a w hst hn _ hdn next Q hnext _
 unfold Oper.oK
 have hrun:=run_makeSlice (k:=k) (k':=k') w el t hT h0 h1 h2
 have:(execOp a.eval o).run P w = .ok (.value (.slice (some ⟨w.heap.size,0,none⟩) m.toNat c.toNat)) (w.alloc (.cells (List.replicate c.toNat r.zc).flatten.toArray E)):=by
  simp only [execOp,ho,eG.1 (hx h a hn),eG.1 (hy h a hn),Sem.run_bind,hrun,Result.andThen_ok,Sem.run_pure]
 rw [this]
 have hmc:m.toNat≤c.toNat:=by omega
 refine hnext _ h _ (set1 L d (jJ w.heap.size E r (List.replicate m.toNat r.zero) c.toNat)) (lD.refl h) trivial (hst.y8 _ d _ (by simp [jJ]) ?_) ?_
 ·refine ⟨(List.replicate m.toNat r.zc).flatten,(List.replicate (c.toNat - m.toNat) r.zc).flatten,?_,oC.zeros r h _,?_⟩
  ·rw [y9,← Me r _ _ hmc]
  ·rw [← Me r _ _ hmc,Rk]
 ·rw [hd]
  exact lH (.inr ⟨_,c.toNat,by rw [fO (hdn d hd),List.length_replicate],by rw [List.length_replicate];exact hmc,rfl⟩)
theorem eP {s:Nat} (ho:o.op = .move (.tmp s)):dw P o N [] (Ls s) [] :=
 dw.lX fun h a w _ _=>⟨a.gt s,by simp [execOp,ho,Act.eval,Act.gt],rfl⟩
theorem A8 {T E E':TypeId} {r:Rep α} {s:Nat} {x:Operand} {xs:List α} (hT:P.underlying T=some (.slice E')) (ho:o.op = .call { callee:=.builtin .len,args:=#[x],argTypes:=#[T] }) (hx:bJ N x (Ls s)) :
  dw P o N [(s,bU E r xs)] (fV (Rep.int .i64) (xs.length:Int)) []:=by
 intro κ B F L h a w hst hn hk _ next Q hnext _
 obtain ⟨e,_,hq⟩:=hk.1
 have hx':a.eval x=a.gt s:=hx h a hn
 have:(execOp a.eval o).run P w = .ok (.value (.int .i64 (xs.length:Int))) w:=by
  rcases hq with ⟨⟨base,hv⟩,rfl,_⟩ | ⟨b,cap,hv,_,_⟩
  ·have hv':a.gt s=_:=hv
   simp [execOp,ho,resolve,invoke,builtin,Builtin.len_,hx',hv',run_underlying hT,goInt]
  ·have hv':a.gt s=_:=hv
   simp [execOp,ho,resolve,invoke,builtin,Builtin.len_,hx',hv',run_underlying hT,goInt]
 unfold Oper.oK
 rw [this]
 exact hnext _ h w L (lD.refl h) (eG.2 rfl) hst lU
theorem cZ {xs:List α} {n:Int} {y:α} (h:idx xs n=some y):0≤n∧n.toNat<xs.length∧xs[n.toNat]? = some y:=by
 unfold idx at h
 split at h
 ·cases h
 ·rename_i hn
  exact ⟨by omega,(List.getElem?_eq_some_iff.1 h).1,h⟩
theorem je {T E:TypeId} {r:Rep α} {s:Nat} {k:IntKind} {x i:Operand} {xs:List α} {n:Int} {y:α} (hq:idx xs n=some y) (t:iV P E r) (hT:P.underlying T=some (.slice E)) (ho:o.op = .indexAddr T x i) (hx:bJ N x (Ls s)) (hi:bJ N i (fV (Rep.int k) n)) :
  dw P o N [(s,bU E r xs)] (Wj s (n.toNat * r.sz)) []:=by
 obtain ⟨h0,h1,_⟩:=cZ hq
 intro κ B F L h a w hst hn hk _ next Q hnext _
 obtain ⟨e,_,⟨_,rfl,_⟩ | ⟨b,cap,hv,_,_⟩⟩:=hk.1
 ·exact absurd h1 (Nat.not_lt_zero _)
 have hx':a.eval x=a.gt s:=hx h a hn
 have hv':a.gt s=_:=hv
 unfold Oper.oK
 have hb:0≤n∧n<xs.length:=by omega
 have:(execOp a.eval o).run P w = .ok (.value (.pointer (some ⟨b,n.toNat * r.sz,none⟩))) w:=by
  simp [execOp,ho,hx',hv',eG.1 (hi h a hn),Instr.indexAt,asIntOf,run_underlying hT,hb,t.size,Addr.add_mid]
 rw [this]
 exact hnext _ h w L (lD.refl h) ⟨b,_,cap,hv',rfl⟩ hst lU
theorem wF {T:TypeId} {s i off off':Nat} {x:Operand} (hf:bK P T i off) (ho:o.op = .fieldAddr T x i) (hx:bJ N x (Wj s off')):dw P o N [] (Wj s (off'+off)) [] :=
 dw.lX fun h a w _ q=>by
  obtain ⟨b,len,cap,hd,hv⟩:=hx h a q
  exact ⟨.pointer (some ⟨b,off'+off,none⟩),by simp [execOp,ho,hv,hf b off' w],b,len,cap,hd,rfl⟩
theorem Ia {κ:Type} {B:Base} {h:H} {L:Nat→Option gQ} {F:κ→Option gQ} {w:World} (hst:St B h (Sum.elim L F) w) {s b cap:Nat} {E:TypeId} {r:Rep α} {xs:List α}
  (hk:L s=some (jJ b E r xs cap)):∃ cs rest,w.heap[b]? = some (.cells (cs ++ rest).toArray E (0,0))∧oC r h cs xs∧(cs ++ rest).length=cap * r.sz:=(hst.own (k:=Sum.inl s) hk).2
theorem kz {T E:TypeId} {r:Rep α} {q:Rep β} {s off m:Nat} {x:Operand} {xs:List α} {y:α} {get:α→β} {set:α→β→α} (hy:xs[m]? = some y) (l:Lens r q off get set) (t:iV P T q) (ho:o.op = .load T x) (hx:bJ N x (Wj s (m * r.sz+off))) :
  dw P o N [(s,bU E r xs)] (fV q (get y)) []:=by
 intro κ B F L h a w hst hn hk _ next Q hnext _
 obtain ⟨b,len,cap,hd,hv⟩:=hx h a hn
 have hd':a.gt s=_:=hd
 obtain ⟨e,hL,⟨_,rfl,_⟩ | ⟨b',cap',hv',hc,rfl⟩⟩:=hk.1
 ·simp at hy
 rw [hd'] at hv';cases hv'
 obtain ⟨cs,rest,hb,hr,_⟩:=Ia hst hL
 obtain ⟨p,c,q',rfl,hp,hcr,_⟩:=hr.get hy
 obtain ⟨p2,c2,q2,rfl,hp2,hc2,_⟩:=l h c y hcr
 unfold Oper.oK
 have hrun:=rW (b:=b) (off:=m * r.sz+off) (w:=w) t (q.len hc2) (fun j v hj=>by
  rw [uQ _ _ _ _ _ _ hb]
  have hjl:=(List.getElem?_eq_some_iff.1 hj).1
  simp only [List.getElem?_toArray]
  rw [show p ++ (p2 ++ c2 ++ q2) ++ q' ++ rest=(p ++ p2) ++ (c2 ++ (q2 ++ q' ++ rest)) by simp,List.getElem?_append_right (by simp;omega)]
  rw [show m * r.sz+off+j - (p ++ p2).length=j by simp;omega,List.getElem?_append_left hjl];exact hj)
 have:(execOp a.eval o).run P w = .ok (.value (pack q.agg c2)) w:=by simp [execOp,ho,hv,hrun]
 rw [this]
 exact hnext _ h w L (lD.refl h) ⟨c2,hc2,rfl⟩ hst lU
theorem lm {T E:TypeId} {r:Rep α} {q:Rep β} {s off m:Nat} {x v:Operand} {xs:List α} {y:α} {z:β} {get:α→β} {set:α→β→α} {xs':List α} (hy:xs[m]? = some y) (l:Lens r q off get set) (t:iV P T q) (hd:o.dst=none) (ho:o.op = .store T x v)
    (hx:bJ N x (Wj s (m * r.sz+off))) (hv:bJ N v (fV q z)) (hs':xs'=xs.set m (set y z)):dw P o N [(s,bU E r xs)] aO.pX [(s,some (bU E r xs'))]:=by
  subst hs'
  intro κ B F L h a w hst hn hk _ next Q hnext _
  obtain ⟨b,len,cap,hdv,hxv⟩:=hx h a hn
  have hd':a.gt s=_:=hdv
  obtain ⟨e,hL,⟨_,rfl,_⟩ | ⟨b',cap',hv',hc,rfl⟩⟩:=hk.1
  · simp at hy
  rw [hd'] at hv';cases hv'
  obtain ⟨cs,rest,hb,hr,hlen⟩:=Ia hst hL
  obtain ⟨c',hc',hvv⟩:=hv h a hn
  obtain ⟨p,c,q',rfl,hp,hcr,hset⟩:=hr.get hy
  obtain ⟨p2,c2,q2,rfl,hp2,hc2,UK⟩:=l h c y hcr
  have hsh:p ++ (p2 ++ c2 ++ q2) ++ q' ++ rest=(p ++ p2) ++ c2 ++ (q2 ++ q' ++ rest):=by simp
  have hsh':(p ++ p2) ++ c' ++ (q2 ++ q' ++ rest)=(p ++ (p2 ++ c' ++ q2) ++ q') ++ rest:=by simp
  have hb0:=hb
  rw [hsh] at hb
  have hrun:=ni t hc' hb (q.len hc2)
  unfold Oper.oK
  have hpl:(p ++ p2).length=m * r.sz+off:=by simp;omega
  have:(execOp a.eval o).run P w = .ok .skip (w.setRow b ((p ++ p2) ++ c' ++ (q2 ++ q' ++ rest)).toArray):=by
    simp only [execOp,ho,hxv,hvv,← hpl,Sem.run_bind,hrun,Result.andThen_ok,Sem.run_pure]
  rw [this,hsh']
  obtain ⟨hcl,_⟩:=hst.own (k:=Sum.inl s) hL
  have hno:=(hcl (b,0) (by simp [jJ])).2.2
  have hrel:=hset h _ _ (lD.refl h) (UK h c' z (lD.refl h) hc')
  have hmem:=sW w b (p ++ (p2 ++ c2 ++ q2) ++ q' ++ rest).toArray ((p ++ (p2 ++ c' ++ q2) ++ q') ++ rest).toArray E hb0
  refine hnext undef h _ (set1 L s (jJ b E r (xs.set m (set y z)) cap)) (lD.refl h) trivial ?_ ?_
  · refine hst.write (Sum.inl s) (e := jJ b E r xs cap) hL (b := b) (lo := 0) (by simp [jJ]) hmem (fun i hi => setRow_other w b i _ hi) (by simp [World.setRow]) rfl rfl rfl ?_ qw ?_
    · intro o' u hh;rw [hno o' (Nat.zero_le _)] at hh;cases hh
    · intro e' he
      rw [qx he]
      refine ⟨fun c hc=>hc,_,rest,hmem,hrel,?_⟩
      rw [← hlen]
      have:=q.len hc';have:=q.len hc2
      simp;omega
  · rw [hd]
    exact lH (.inr ⟨b,cap,by rw [List.length_set];exact hd',by rw [List.length_set];exact hc,rfl⟩)
theorem Qu {T E:TypeId} {r:Rep α} {s d:Nat} {k:IntKind} {x i:Operand} {lo:Option Operand} {xs ys:List α} {n:Int} (hlo:lo=none) (hq:(bif decide (0≤n)&&decide (n≤xs.length) then some (xs.take n.toNat) else none)=some ys) (hT:P.underlying T=some (.slice E)) (t:iV P E r) (hsd:Nat.beq s d=false) (hd:o.dst=some d) (ho:o.op = .slice T x lo (some i) none)
  (hx:bJ N x (Ls s)) (hi:bJ N i (fV (Rep.int k) n)):dw P o N [(s,bU E r xs)] aO.pX [(s,none),(d,some (bU E r ys))]:=by
 subst hlo
 have hn0:0≤n∧n≤xs.length:=by
  cases hb:(decide (0≤n)&&decide (n≤xs.length)) with
  | true=>simpa using hb
  | false=>rw [hb] at hq;cases hq
 have hys:ys=xs.take n.toNat:=by
  rw [show (decide (0≤n)&&decide (n≤xs.length))=true by simp [hn0]] at hq
  exact (Option.some.inj hq).symm
 subst hys
 have hne:s≠d:=fun x=>by rw [kL.2 x] at hsd;cases hsd
 intro κ B F L h a w hst hn hk hdn next Q hnext _
 have hx':a.eval x=a.gt s:=hx h a hn
 obtain ⟨e,hL,⟨⟨base,hv⟩,rfl,rfl⟩ | ⟨b,cap,hv,hc,rfl⟩⟩:=hk.1
 ·have hv':a.gt s=_:=hv
  have hn1:n=0:=by have:=hn0.2;simp at this;omega
  subst hn1
  unfold Oper.oK
  have:(execOp a.eval o).run P w = .ok (.value (.slice base 0 0)) w:=by
   simp [execOp,ho,hx',hv',eG.1 (hi h a hn),Instr.sliceAt,Instr.slice,run_underlying hT,Instr.sliceBounds,Instr.sliceBound,asIntOf,t.size]
  rw [this]
  refine hnext _ h w _ (lD.refl h) trivial (hst.mv s d) ?_
  rw [hd]
  exact Ij hne hL (by rw [fO (hdn d hd)];exact .inl ⟨⟨_,rfl⟩,by simp,rfl⟩)
 have hv':a.gt s=_:=hv
 unfold Oper.oK
 have hnc:0≤n∧n≤(cap:Int):=by omega
 have:(execOp a.eval o).run P w = .ok (.value (.slice (some ⟨b,0,none⟩) n.toNat cap)) w:=by
  simp [execOp,ho,hx',hv',eG.1 (hi h a hn),Instr.sliceAt,Instr.slice,run_underlying hT,Instr.sliceBounds,Instr.sliceBound,asIntOf,hnc,t.size,Addr.add_mid]
 rw [this]
 have hlt:(xs.take n.toNat).length=n.toNat:=by rw [List.length_take];omega
 have hst1:St B h (Sum.elim (set1 L s (jJ b E r (xs.take n.toNat) cap)) F) w:=by
  obtain ⟨hcl,cs,rest,hb,hr,hlen⟩:=hst.own (k:=Sum.inl s) hL
  obtain ⟨c,d',rfl,hr'⟩:=hr.take n.toNat (by omega)
  refine hst.step (Sum.inl s) (fun _=>False) (fun _ hb=>hb.elim) (Nat.le_refl _) rfl rfl rfl (fun _ _ _=>rfl) (lD.refl h) (fun _ _ _ _=>rfl) ?_ qw ?_
  ·rintro b o' v (hb | hb) hv
   ·exact hb.elim
   ·rw [hst.fresh hb] at hv;cases hv
  ·intro e' he
   rw [qx he]
   refine ⟨fun c hc=>?_,c,d' ++ rest,?_,hr',?_⟩
   ·obtain ⟨_,h2,h3⟩:=hcl c hc
    exact ⟨.inr ⟨_,hL,c,hc,rfl⟩,h2,h3⟩
   ·rw [hb];simp
   ·rw [← hlen];simp
 refine hnext _ h w _ (lD.refl h) trivial (hst1.mv s d) ?_
 rw [hd]
 exact Jl (fun k hk=>by simp [set1,hk]) hne (by simp [set1]) (.inr ⟨b,cap,by rw [fO (hdn d hd),hlt],by omega,rfl⟩)
theorem lq {E:TypeId} {r:Rep α} {d:Nat} (hd:o.dst=some d) (ho:o.op = .assign (.const (.slice none 0 0))∨o.op = .move (.const (.slice none 0 0))):dw P o N [] aO.pX [(d,some (bU E r []))]:=by
 intro κ B F L h a w hst hn _ hdn next Q hnext _
 unfold Oper.oK
 have:(execOp a.eval o).run P w = .ok (.value (.slice none 0 0)) w:=by rcases ho with ho | ho <;> (simp [execOp,ho];rfl)
 rw [this]
 have hst':St B h (Sum.elim (set1 L d kM) F) w:=by
  refine hst.step (Sum.inl d) (fun _=>False) (fun b hb=>hb.elim) (Nat.le_refl _) rfl rfl rfl (fun _ _ _=>rfl) (lD.refl h) (fun _ _ _ _=>rfl) ?_ qw ?_
  ·rintro b o' v (hb | hb) hv
   ·exact hb.elim
   ·rw [hst.fresh hb] at hv;cases hv
  ·intro e' he;rw [qx he];exact ⟨fun c hc=>(by cases hc),trivial⟩
 refine hnext _ h w _ (lD.refl h) trivial hst' ?_
 rw [hd]
 exact lH (.inl ⟨⟨_,fO (hdn d hd)⟩,rfl,rfl⟩)
theorem um {E:TypeId} {r:Rep α} {xs:List α} {s d:Nat} {x:Operand} (hsd:Nat.beq s d=false) (hd:o.dst=some d) (ho:o.op = .move x∨o.op = .assign x) (hx:bJ N x (Ls s)):dw P o N [(s,bU E r xs)] aO.pX [(s,none),(d,some (bU E r xs))]:=by
 intro κ B F L h a w hst hn hk hdn next Q hnext _
 obtain ⟨e,hL,hq⟩:=hk.1
 have hx':a.eval x=a.gt s:=hx h a hn
 have hne:s≠d:=fun x=>by rw [kL.2 x] at hsd;cases hsd
 unfold Oper.oK
 have:(execOp a.eval o).run P w = .ok (.value (a.gt s)) w:=by rcases ho with ho | ho <;> (simp [execOp,ho,hx'])
 rw [this]
 refine hnext _ h w _ (lD.refl h) trivial (hst.mv s d) ?_
 rw [hd]
 exact Ij hne hL (by rw [fO (hdn d hd)];exact hq)
theorem St.QF {κ:Type} {B:Base} {h:H} {L:Nat→Option gQ} {F:κ→Option gQ} {w:World} (hst:St B h (Sum.elim L F) w) {r:Rep α} {cx cy:List Value} {xs ys:List α} (E:TypeId) (d cap:Nat) (hx:oC r h cx xs) (hy:oC r h cy ys) (hge:xs.length+ys.length≤cap) :
  St B h (Sum.elim (set1 L d (jJ w.heap.size E r (xs ++ ys) cap)) F) (w.drew.alloc (.cells (cx.toArray ++ cy.toArray ++ Builtin.zeroCells (pack r.agg r.zc).cells (cap - (xs.length+ys.length))) E)):=by
 have hzc:(pack r.agg r.zc).cells.size=r.sz:=by rw [ql (r.uy h)];simp [r.len (r.uy h)]
 have hxy:=hx.append hy
 have he:(cx.toArray ++ cy.toArray ++ Builtin.zeroCells (pack r.agg r.zc).cells (cap - (xs.length+ys.length)))=((cx ++ cy) ++ (Builtin.zeroCells (pack r.agg r.zc).cells (cap - (xs.length+ys.length))).toList).toArray:=by
  apply Array.ext';simp
 rw [he]
 refine (hst.drawn (w.drawn+1) (Nat.le_succ _)).y8 _ d _ (by intro c hc;simp [jJ] at hc;rw [hc]) ⟨_,_,y9 _ _,hxy,?_⟩
 rw [List.length_append,hxy.len,zlen,hzc,← Nat.add_mul,List.length_append];congr 1;omega
def Ko (N:List (Nat×aO)) (x:Operand) (s:Nat) (Q:gK) (E:TypeId) (r:Rep α) (xs:List α):Prop:=∀ h a e,AU N h a→Q (a.gt s) e→bU E r xs (a.eval x) e
theorem Ko.cp {x:Operand} {s:Nat} {E:TypeId} {r:Rep α} {xs:List α} (hx:bJ N x (Ls s)):Ko N x s (bU E r xs) E r xs:=fun h a _ n q=>by rw [show a.eval x=a.gt s from hx h a n];exact q
theorem QG {T E:TypeId} {r:Rep α} {s d:Nat} {x y:Operand} {xs ys zs:List α} {Q:gK} (hz:app xs ys=some zs) (el:vX P E r) (hT:P.underlying T=some (.slice E)) (hsd:Nat.beq s d=false) (hd:o.dst=some d)
  (ho:o.op = .call { callee:=.builtin .append,args:=#[x,y],argTypes:=#[T,T] }) (hx:Ko N x s Q E r xs) (hy:bJ N y (fV (Rep.slice r) ys)) :
  dw P o N [(s,Q)] aO.pX [(s,none),(d,some (bU E r zs))]:=by
 obtain ⟨rfl,hlim⟩:=OW hz
 obtain ⟨i,hi,hsz,hby,hzero⟩:=el.out
 have hne:s≠d:=fun x=>by rw [kL.2 x] at hsd;cases hsd
 have hbytes:(xs.length+ys.length) * i.bytes≤140737488355328:=by
  have:=Nat.mul_le_mul hlim hby
  unfold lim at this;omega
 have h63:xs.length+ys.length≤9223372036854775807:=by unfold lim at hlim;omega
 intro κ B F L h a w hst hn hk hdn next Q hnext _
 obtain ⟨e,hL,hq⟩:=hk.1
 have hL:L s=some e:=hL
 have hq:bU E r xs (a.eval x) e:=hx h a e hn hq
 have hyv:=jR.1 (hy h a hn)
 have hrun:∀ v w',(Builtin.append_ #[T,T] o.type #[a.eval x,a.eval y]).run P w = .ok v w'→(execOp a.eval o).run P w = .ok (.value v) w':=by
  intro v w' hr
  simp only [execOp,ho,resolve,invoke,builtin,Sem.run_bind,Sem.run_pure,Result.andThen_ok,List.map_toArray,List.map_cons,List.map_nil,hr]
 unfold Oper.oK
 by_cases hy0:ys=[]
 ·subst hy0
  obtain ⟨base',cap',hv',hc'⟩:=hyv.le
  rw [List.length_nil] at hv'
  have:∃ base cap,a.eval x = .slice base xs.length cap∧xs.length≤cap:=by
   rcases hq with ⟨⟨base,hv⟩,rfl,_⟩ | ⟨b,cap,hv,hc,_⟩
   ·exact ⟨base,0,hv,Nat.le_refl _⟩
   ·exact ⟨_,cap,hv,hc⟩
  obtain ⟨base,cap,hv,hc⟩:=this
  rw [hrun _ _ (by rw [hv,hv'];exact run_append_nothing w hT hi base xs.length cap hc base' cap'),← hv]
  refine hnext _ h w _ (lD.refl h) trivial (hst.mv s d) ?_
  rw [hd]
  exact Ij hne hL (by rw [fO (hdn d hd),List.append_nil];exact hq)
 ·have hypos:0<ys.length:=List.length_pos_iff.2 hy0
  rcases hyv with ⟨_,rfl⟩ | ⟨TW,Jf,LC,IV,_,UJ⟩
  ·exact absurd rfl hy0
  obtain ⟨cy,hcy,YT⟩:=uh.cells UJ
  have hnews:∀ j u,cy[j]? = some u→w.cell? ((⟨TW,Jf,none⟩:Addr).add j)=some u:=fun j u hj=>by rw [Addr.add_mid];exact hst.ext (YT j u hj)
  have NJ:cy.length=ys.length * i.size:=by rw [hcy.len,hsz]
  rcases hq with ⟨⟨base0,hxval⟩,rfl,rfl⟩ | ⟨b,cap,hxval,hcap,rfl⟩
  ·simp only [List.length_nil,Nat.zero_add] at hbytes h63
   have hxval:a.eval x=_:=hxval
   cases base0 with
   | some a0 =>
    have hr:=run_append_grow (P:=P) w T o.type E i _ hT hi hzero a0 0 0 [] (by simp) (fun j u hj=>by simp at hj) ⟨TW,Jf,none⟩ ys.length LC cy NJ hnews (by omega) (by omega) (growslice_fits (by omega) (by rw [Nat.zero_add];exact hbytes))
    rw [hrun _ _ (by rw [hxval,IV];exact hr)]
    have hst':=hst.QF (cx:=[]) (xs:=([]:List α)) E d (grownCap w (0+ys.length) 0 E) rfl hcy (by rw [List.length_nil];exact grownCap_ge w _ 0 E)
    simp only [List.length_nil] at hst'
    refine hnext _ h _ _ (lD.refl h) trivial hst' ?_
    rw [hd]
    exact Bj hne (.inr ⟨_,_,by rw [fO (hdn d hd),List.nil_append,Nat.zero_add],by have:=grownCap_ge w (0+ys.length) 0 E;simp at this ⊢;omega,by simp⟩)
   | none =>
   have hr:=run_append_nil (P:=P) w T o.type E i _ hT hi hzero ⟨TW,Jf,none⟩ ys.length LC cy NJ hnews hypos (by omega) (by omega)
   rw [hrun _ _ (by rw [hxval,IV];exact hr)]
   have hst':=hst.QF (cx:=[]) (xs:=([]:List α)) E d (grownCap w ys.length 0 E) rfl hcy (by rw [List.length_nil,Nat.zero_add];exact grownCap_ge w ys.length 0 E)
   simp only [List.length_nil,Nat.zero_add] at hst'
   have he:(#[]:Array Value) ++ cy.toArray=cy.toArray:=by simp
   rw [show ([]:List Value).toArray = #[] from rfl,he] at hst'
   refine hnext _ h _ _ (lD.refl h) trivial hst' ?_
   rw [hd]
   exact Bj hne (.inr ⟨_,_,fO (hdn d hd),by simp;exact grownCap_ge w ys.length 0 E,by simp⟩)
  ·have hxval:a.eval x=_:=hxval
   obtain ⟨cs,rest,hb,hr0,hlen⟩:=Ia hst hL
   by_cases hroom:xs.length+ys.length≤cap
   ·have hcl0:=hr0.len
    have XV:=hcy.len
    have hmul:(xs.length+ys.length) * r.sz≤cap * r.sz:=Nat.mul_le_mul_right _ hroom
    rw [Nat.add_mul] at hmul
    have hlen':cs.length+rest.length=cap * r.sz:=by rw [← hlen,List.length_append]
    have hr:=Aj (P:=P) (ty:=o.type) w hT hi b 0 xs.length cap (cs ++ rest).toArray hb ⟨TW,Jf,none⟩ ys.length LC cy NJ hnews hcy.flat hroom (by rw [hsz];simp;omega)
    rw [hsz,Nat.zero_add] at hr
    have hnew:((cs ++ rest).toArray.toList.take (xs.length * r.sz) ++ cy ++ (cs ++ rest).toArray.toList.drop (xs.length * r.sz+cy.length))=(cs ++ cy) ++ rest.drop cy.length:=by
     rw [← hcl0]
     simp [List.drop_append]
    rw [hnew] at hr
    rw [hrun _ _ (by rw [hxval,IV];exact hr)]
    obtain ⟨hcl,_⟩:=hst.own (k:=Sum.inl s) hL
    have hno:=(hcl (b,0) (by simp [jJ])).2.2
    have hmem:=sW w b (cs ++ rest).toArray ((cs ++ cy) ++ rest.drop cy.length).toArray E hb
    have hst1:St B h (Sum.elim (set1 L s (jJ b E r (xs ++ ys) cap)) F) (w.setRow b ((cs ++ cy) ++ rest.drop cy.length).toArray):=by
     refine hst.write (Sum.inl s) (e:=jJ b E r xs cap) hL (b:=b) (lo:=0) (by simp [jJ]) hmem (fun i hi=>setRow_other w b i _ hi) (by simp [World.setRow]) rfl rfl rfl ?_ qw ?_
     ·intro o' u hh;rw [hno o' (Nat.zero_le _)] at hh;cases hh
     ·intro e' he
      rw [qx he]
      refine ⟨fun c hc=>hc,_,_,hmem,hr0.append hcy,?_⟩
      simp;omega
    refine hnext _ h _ _ (lD.refl h) trivial (hst1.mv s d) ?_
    rw [hd]
    exact Jl (fun k hk=>by simp [set1,hk]) hne (by simp [set1]) (.inr ⟨b,cap,by rw [fO (hdn d hd),List.length_append],by rw [List.length_append];exact hroom,rfl⟩)
   ·have hcl0:=hr0.len
    have hr:=run_append_grow (P:=P) w T o.type E i _ hT hi hzero ⟨b,0,none⟩ xs.length cap cs (by rw [hr0.len,hsz]) (fun j u hj=>by
     rw [Addr.add_mid,Nat.zero_add,uQ _ _ _ _ _ _ hb]
     have hjl:=(List.getElem?_eq_some_iff.1 hj).1
     simp only [List.getElem?_toArray]
     rw [List.getElem?_append_left hjl];exact hj) ⟨TW,Jf,none⟩ ys.length LC cy NJ hnews (by omega) (by omega) (growslice_fits (by omega) hbytes)
    rw [hrun _ _ (by rw [hxval,IV];exact hr)]
    have hst':=hst.QF E d (grownCap w (xs.length+ys.length) cap E) hr0 hcy (grownCap_ge w _ cap E)
    refine hnext _ h _ _ (lD.refl h) trivial hst' ?_
    rw [hd]
    exact Bj hne (.inr ⟨_,_,by rw [fO (hdn d hd),List.length_append],by rw [List.length_append];exact grownCap_ge w _ cap E,rfl⟩)
theorem y7 {T E:TypeId} {r:Rep α} {s d:Nat} {x y:Operand} {xs ys zs:List α} (hz:app xs ys=some zs) (el:vX P E r) (hT:P.underlying T=some (.slice E)) (hsd:Nat.beq s d=false) (hd:o.dst=some d)
  (ho:o.op = .call { callee:=.builtin .append,args:=#[x,y],argTypes:=#[T,T] }) (hx:bJ N x (Ls s)) (hy:bJ N y (fV (Rep.slice r) ys)) :
  dw P o N [(s,bU E r xs)] aO.pX [(s,none),(d,some (bU E r zs))]:=QG hz el hT hsd hd ho (Ko.cp hx) hy
theorem At.freeze {κ:Type} {B:Base} {h0:H} {Γ:Ctx} {Λ:Own} {F:κ→Option gQ} {n:Nat} {a:Act} {w:World} {E:TypeId} {r:Rep α} {xs:List α} (s:Nat) (hAt:At B h0 Γ Λ F n a w) (hs:Λ s=some (bU E r xs)) :
    At B h0 (fun k=>bif Nat.beq s k then fV (Rep.slice r) xs else Γ k) (fun k=>bif Nat.beq s k then none else Λ k) F n a w:=by
  obtain ⟨h,L,hle,hst,yQ,qY,hsz,hdf⟩:=hAt
  obtain ⟨e,hL,⟨⟨base,hv⟩,rfl,rfl⟩ | ⟨b,cap,hv,hc,rfl⟩⟩:=yQ s _ hs
  · refine ⟨h, L, hle, hst, fun k q hq => ?_, fun k => ?_, hsz, hdf⟩
    · cases hk:Nat.beq s k with
      | true=>simp only [hk,cond_true] at hq;cases hq
      | false=>simp only [hk,cond_false] at hq;exact yQ k q hq
    · cases hk:Nat.beq s k with
      | true =>
        rw [kL] at hk;subst hk
        show aO.at (bif Nat.beq s s then _ else _) _ _ _
        rw [kL.2 rfl]
        exact jR.2 (.inl ⟨⟨base,hv⟩,rfl⟩)
      | false =>
        show aO.at (bif Nat.beq s k then _ else _) _ _ _
        rw [hk];exact qY k
  obtain ⟨_,cs,rest,hb,hr,hlen⟩:=hst.own (k:=Sum.inl s) hL
  have hb':w.heap[b]? = some (.cells (cs ++ rest).toArray E (0,0)):=hb
  obtain ⟨hl2,hst2⟩:=hst.freeze (Sum.inl s) (e:=jJ b E r xs cap) hL (b:=b) (lo:=0) (by simp [jJ]) hb' cs.length (by simp) (L':=Sum.elim (fun k=>if k=s then none else L k) F) (by
    intro k' e' hne he
    cases k' with
    | inr k=>exact he
    | inl k =>
      have:k≠s:=fun x=>hne (by rw [x])
      simpa [this] using he) (fun e' he=>by simp at he)
  have htk:(cs ++ rest).toArray.toList.take cs.length=cs:=by simp
  rw [htk] at hl2 hst2
  refine ⟨_,_,hle.trans hl2,hst2,?_,?_,hsz,hdf⟩
  · intro k q hq
    cases hk:Nat.beq s k with
    | true=>simp only [hk,cond_true] at hq;cases hq
    | false =>
      simp only [hk,cond_false] at hq
      obtain ⟨e,he,hqe⟩:=yQ k q hq
      have:k≠s:=fun x=>by rw [kL.2 x.symm] at hk;cases hk
      exact ⟨e,by simp [this,he],hqe⟩
  · intro k
    cases hk:Nat.beq s k with
    | true =>
      rw [kL] at hk;subst hk
      show aO.at (bif Nat.beq s s then _ else _) _ _ _
      rw [kL.2 rfl]
      refine jR.2 (.inr ⟨b,0,cap,hv,hc,(hr.mono hl2).refs fun j v hj=>?_,fun _=>hst.mo (k:=Sum.inl s) hL (c:=(b,0)) (by simp [jJ])⟩)
      have hjl:=(List.getElem?_eq_some_iff.1 hj).1
      rw [Nat.zero_add,yH hjl,← hj,List.getElem?_eq_getElem hjl]
    | false =>
      show aO.at (bif Nat.beq s k then _ else _) _ _ _
      rw [hk]
      exact (Γ k).mono hl2 (qY k)

def MB (xs:List α) (lo hi:Int):Option (List α):=bif decide (0≤lo)&&decide (lo≤hi)&&decide (hi≤xs.length) then some ((xs.take hi.toNat).drop lo.toNat) else none
theorem OY {xs ys:List α} {lo hi:Int} (h:MB xs lo hi=some ys):0≤lo∧lo≤hi∧hi≤xs.length∧ys=(xs.take hi.toNat).drop lo.toNat:=by
 unfold MB at h
 cases hb:(decide (0≤lo)&&decide (lo≤hi)&&decide (hi≤xs.length)) with
 | true=>rw [hb] at h;cases h;simp at hb;exact ⟨hb.1.1,hb.1.2,hb.2,rfl⟩
 | false=>rw [hb] at h;cases h
def IW (N:List (Nat×aO)) (dflt:Int):Option Operand→Int→Prop
 | none,n=>n=dflt
 | some x,n=>∃ k,bJ N x (fV (Rep.int k) n)
theorem Sv {N:List (Nat×aO)} {d:Int}:IW N d none d:=rfl
theorem Ou {N:List (Nat×aO)} {d n:Int} {k:IntKind} {x:Operand} (h:bJ N x (fV (Rep.int k) n)):IW N d (some x) n:=⟨k,h⟩
theorem Ik {T E:TypeId} {r:Rep α} {h:H} {a:Act} {w:World} {lo hi:Option Operand} {l m:Int} {len cap:Nat} {base:Option Addr} (hT:P.underlying T=some (.slice E)) (t:iV P E r) (hn:AU N h a) (hl:IW N 0 lo l) (hm:IW N len hi m)
  (h0:0≤l) (h1:l≤m) (h2:m≤len) (hc:len≤cap) :
  (Instr.sliceAt T (.slice base len cap) (lo.map a.eval) (hi.map a.eval) none).run P w = .ok (.slice (if cap=l.toNat then base else base.map (·.add (l.toNat * r.sz))) (m.toNat - l.toNat) (cap - l.toNat)) w:=by
 have hmc:0≤m∧m≤(cap:Int):=by omega
 have hlm:0≤l∧l≤((m.toNat:Nat):Int):=by omega
 have hll:0≤l∧l≤(len:Int):=by omega
 cases lo with
 | none =>
  have hl:l=0:=hl
  subst hl
  cases hi with
  | none =>
   have hm:m=len:=hm
   subst hm
   simp [Instr.sliceAt,Instr.slice,run_underlying hT,Instr.sliceBounds,t.size]
  | some y =>
   obtain ⟨k,hy⟩:=hm
   simp [Instr.sliceAt,Instr.slice,run_underlying hT,Instr.sliceBounds,Instr.sliceBound,asIntOf,eG.1 (hy h a hn),hmc,t.size]
 | some x =>
  obtain ⟨k',hx⟩:=hl
  cases hi with
  | none =>
   have hm:m=len:=hm
   subst hm
   simp [Instr.sliceAt,Instr.slice,run_underlying hT,Instr.sliceBounds,Instr.sliceBound,asIntOf,eG.1 (hx h a hn),hll,t.size]
  | some y =>
   obtain ⟨k,hy⟩:=hm
   simp [Instr.sliceAt,Instr.slice,run_underlying hT,Instr.sliceBounds,Instr.sliceBound,asIntOf,eG.1 (hy h a hn),eG.1 (hx h a hn),hmc,hlm,t.size];omega
theorem uh.cut {r:Rep α} {h:H} {v:Value} {xs:List α} {base:Option Addr} {cap:Nat} {l m:Nat} (k:uh r h v xs) (hv:v = .slice base xs.length cap) (h1:l≤m) (h2:m≤xs.length) :
  uh r h (.slice (if cap=l then base else base.map (·.add (l * r.sz))) (m - l) (cap - l)) ((xs.take m).drop l):=by
 have hlen:((xs.take m).drop l).length=m - l:=by rw [List.length_drop,List.length_take];omega
 rcases k with ⟨⟨base',rfl⟩,rfl⟩ | ⟨b,off,cap',rfl,hc,hr,hm⟩
 ·cases hv
  have:m=0:=by simpa using h2
  subst this
  have:l=0:=by omega
  subst this
  exact .inl ⟨⟨base,by simp⟩,by simp⟩
 ·cases hv
  refine .inr ⟨b,if cap=l then off else off+l * r.sz,cap - l,?_,?_,?_,hm⟩
  ·rw [hlen]
   split
   ·rfl
   ·simp [Addr.add_mid]
  ·rw [hlen];omega
  ·intro i x hx
   rw [List.getElem?_drop,List.getElem?_take] at hx
   split at hx
   ·rename_i hlt
    have:=hr _ _ hx
    rw [if_neg (by omega)]
    rwa [show off+l * r.sz+i * r.sz=off+(l+i) * r.sz by rw [Nat.add_mul,Nat.add_assoc]]
   ·cases hx
theorem ok_slice {T E:TypeId} {r:Rep α} {x:Operand} {lo hi:Option Operand} {xs ys:List α} {l m:Int} (hq:MB xs l m=some ys) (t:iV P E r) (hT:P.underlying T=some (.slice E)) (ho:o.op = .slice T x lo hi none)
  (hx:bJ N x (fV (Rep.slice r) xs)) (hl:IW N 0 lo l) (hm:IW N xs.length hi m):dw P o N [] (fV (Rep.slice r) ys) [] :=
 dw.lX fun h a w _ n=>by
  obtain ⟨h0,h1,h2,rfl⟩:=OY hq
  have k:=jR.1 (hx h a n)
  obtain ⟨base,cap,hv,hc⟩:=k.le
  have hrun:=Ik (w:=w) (base:=base) hT t n hl hm h0 h1 h2 hc
  refine ⟨_,by simp only [execOp,ho,hv,Option.map_none,Sem.run_bind,hrun,Result.andThen_ok,Sem.run_pure],jR.2 (k.cut hv (by omega) (by omega))⟩
end Go.KB
namespace Go.KB
variable {P:Program} {o:Oper} {N:List (Nat×aO)} {f:aO} {α β:Type}
theorem Bd {T:TypeId} {k:IntKind} {x i:Operand} {s:Str} {n:Int} {c:UInt8} (hq:idx s n=some c) (hT:P.underlying T=some .string) (ho:o.op = .index T x i) (hx:bJ N x (fV Rep.str s)) (hi:bJ N i (fV (Rep.int k) n)) :
  dw P o N [] (fV (Rep.int .u8) (c.toNat:Int)) [] :=
 dw.lX fun h a w _ q=>by
  obtain ⟨h0,h1,h2⟩:=cZ hq
  refine ⟨.int .u8 (c.toNat:Int),?_,eG.2 rfl⟩
  have hc:(⟨s.toArray⟩:ByteArray)[n.toNat]? = some c:=by
   have:n.toNat<(⟨s.toArray⟩:ByteArray).size:=h1
   rw [getElem?_pos (⟨s.toArray⟩:ByteArray) n.toNat this]
   have e:s[n.toNat]? = some s[n.toNat]:=List.getElem?_eq_getElem h1
   rw [e] at h2;cases h2
   rfl
  simp [execOp,ho,zf.1 (hx h a q),eG.1 (hi h a q),Instr.index,asIntOf,run_underlying hT,h0,hc]
def Tj (op:BinOp) (a b:Str):Bool :=
 match op with
 | .eql=>a == b | .neq=>!(a == b) | .lss=>Op.bytesLess a b | .leq=>(Op.bytesLess a b||a == b) | .gtr=>!(Op.bytesLess a b||a == b) | _=>!(Op.bytesLess a b)
theorem WB {op:BinOp} {T T':TypeId} {x y:Operand} {s t:Str} {b:Bool} (hop:op = .eql∨op = .neq∨op = .lss∨op = .leq∨op = .gtr∨op = .geq) (hb:Tj op s t=b) (ho:o.op = .binOp op T x y T')
  (hx:bJ N x (fV Rep.str s)) (hy:bJ N y (fV Rep.str t)):dw P o N [] (fV Rep.bool b) [] :=
 dw.lX fun h a w _ q=>by
  subst hb
  refine ⟨.bool (Tj op s t),?_,jY.2 rfl⟩
  rcases hop with rfl | rfl | rfl | rfl | rfl | rfl <;>
   simp [execOp,ho,zf.1 (hx h a q),zf.1 (hy h a q),binOp,Op.stringOp,eqGuard,Tj]
theorem Yq {T T':TypeId} {x y:Operand} {b c:Bool} (hT:P.underlying T=some .bool) (ho:o.op = .binOp .eql T x y T') (hx:bJ N x (fV Rep.bool b)) (hy:bJ N y (fV Rep.bool c)):dw P o N [] (fV Rep.bool (b == c)) [] :=
 dw.lX fun h a w _ q=>⟨.bool (b == c),by simp only [execOp,ho,jY.1 (hx h a q),jY.1 (hy h a q),eqGuard_at_bool,Sem.run_bind,Sem.run_pure,Result.andThen_ok,run_eql_bool w T b c hT],jY.2 rfl⟩
theorem Nh {T T':TypeId} {x y:Operand} {b c:Bool} (hT:P.underlying T=some .bool) (ho:o.op = .binOp .neq T x y T') (hx:bJ N x (fV Rep.bool b)) (hy:bJ N y (fV Rep.bool c)):dw P o N [] (fV Rep.bool (!(b == c))) [] :=
 dw.lX fun h a w _ q=>⟨.bool (!(b == c)),by simp only [execOp,ho,jY.1 (hx h a q),jY.1 (hy h a q),eqGuard_at_bool,Sem.run_bind,Sem.run_pure,Result.andThen_ok,run_neq_bool w T b c hT],jY.2 rfl⟩
end Go.KB
namespace Go.KB
variable {ρ:Option Nat} {P:Program} {κ:Type} {B:Base} {h0:H} {Γ:Ctx} {Λ:Own} {F:κ→Option gQ} {n:Nat} {a:Act} {w:World} {Q:Exit→Act→World→Prop}
theorem wp_mono {c:Code} {Q':Exit→Act→World→Prop} (h:c.oK ρ P Q a w) (hq:∀ e a w,Q e a w→Q' e a w):c.oK ρ P Q' a w:=wpIn_mono h hq
theorem wp_skip (h:Q .normal a w):Code.skip.oK ρ P Q a w:=wpIn_skip h
theorem wp_exit {id:Nat} (h:Q (.exit id) a w):(Code.exit id).oK ρ P Q a w:=wpIn_exit h
theorem wp_ret (h:Q .ret a w):Code.ret.oK ρ P Q a w:=wpIn_ret h
theorem wp_seq {x y:Code} (h:x.oK ρ P (Exit.then (y.oK ρ P Q) Q) a w):(Code.seq x y).oK ρ P Q a w:=wpIn_seq h
theorem wp_block {id:Nat} {c:Code} (h:c.oK ρ P (Exit.inBlock id Q) a w):(Code.block id c).oK ρ P Q a w:=wpIn_block h
theorem wp_cond_split {c:Operand} {x y:Code} {t:Bool} (hc:a.eval c = .bool t) (ht:t=true→x.oK ρ P Q a w) (hf:t=false→y.oK ρ P Q a w):(Code.cond c x y).oK ρ P Q a w:=wpIn_cond_split hc ht hf
def IQ (P:Program) (fn:Func) (R:Ending→World→Prop):Exit→Act→World→Prop
 | .normal,a,w | .ret,a,w=>(a.defers=[]∧∃ v,(results fn a.tmps).run P w = .ok v w∧R (.returned v) w) ∨
   ∃ D w',a.defers=[{ target:=.collected D,args:=#[] }]∧(Instr.takeDeferred D).run P w = .ok [] w'∧∃ v,(results fn a.tmps).run P w' = .ok v w'∧R (.returned v) w'
 | _,_,_=>False
theorem IQ.mono {fn:Func} {R R':Ending→World→Prop} (hR:∀ e w,R e w→R' e w) {e:Exit} {a:Act} {w:World} (h:IQ P fn R e a w):IQ P fn R' e a w:=by
  cases e <;> first
    | exact h.elim
    | (rcases h with ⟨h1,v,h2,h3⟩ | ⟨D,w',h1,h2,v,h3,h4⟩
       · exact .inl ⟨h1,v,h2,hR _ _ h3⟩
       · exact .inr ⟨D,w',h1,h2,v,h3,hR _ _ h4⟩)
theorem xk {f:FuncId} {fn:Func} {c:Code} {args:Array Value} {w:World} {R R':Ending→World→Prop} {X:Prop} (hX:X) (hf:P.funcs[f]? = some fn) (hb:fn.body=some c)
    (h:c.oK none P (fun e a w=>X→IQ P fn R' e a w) { tmps:=args ++ Array.replicate (fn.ntmps - args.size) undef,defers:=[] } w) (hR:∀ e w,R' e w→R e w):Calls P f args w R:=by
  refine MC.1 (callsIn_of_wp_marks (F:=Wl none) (n:=0) hf hb trivial (wpIn_mono h ?_))
  intro e a w hq
  have hq:=(hq hX).mono hR
  cases e <;> first
    | exact hq.elim
    | (rcases hq with ⟨h1,v,h2,h3⟩ | ⟨D,w',h1,h2,v,h3,h4⟩
       · simp only [bodyPostM];rw [h1];exact ⟨v,h2,h3⟩
       · simp only [bodyPostM];rw [h1];exact ⟨by simp,.inl ⟨D,w',rfl,h2,v,h3,h4⟩⟩)

theorem At.less {Γ':Ctx} {Λ':Own} (x:At B h0 Γ Λ F n a w) (hG:∀ s,Γ' s=Γ s∨Γ' s=aO.pX) (hO:∀ s,Λ' s=Λ s∨Λ' s=none):At B h0 Γ' Λ' F n a w:=by
 obtain ⟨h,L,hle,hst,yQ,qY,r⟩:=x
 refine ⟨h,L,hle,hst,?_,?_,r⟩
 ·intro s q hq
  rcases hO s with h1 | h1 <;> rw [h1] at hq
  ·exact yQ s q hq
  ·cases hq
 ·intro s
  rcases hG s with h1 | h1 <;> rw [h1]
  ·exact qY s
  ·exact trivial
def EI (Γ:Ctx):List Nat→List (Nat×aO)
 | []=>[]
 | s :: r=>(s,Γ s) :: EI Γ r
def DK (Λ:Own):List Nat→List (Nat×gK)
 | []=>[]
 | s :: r=>match Λ s with | some e=>(s,e) :: DK Λ r | none=>DK Λ r
theorem UL (Γ:Ctx) (l:List Nat) (s:Nat):Qy (EI Γ l) s=Γ s∨Qy (EI Γ l) s=aO.pX:=by
 induction l with
 | nil=>exact .inr rfl
 | cons x r ih =>
  simp only [Qy,EI,L6] at ih ⊢
  cases hb:Nat.beq x s with
  | true=>rw [kL] at hb;subst hb;exact .inl rfl
  | false=>exact ih
theorem UM (Λ:Own) (l:List Nat) (s:Nat):NF (DK Λ l) s=Λ s∨NF (DK Λ l) s=none:=by
 induction l with
 | nil=>exact .inr rfl
 | cons x r ih =>
  simp only [NF,DK] at ih ⊢
  cases hl:Λ x with
  | none=>exact ih
  | some e =>
   simp only [lkO]
   cases hb:Nat.beq x s with
   | true=>rw [kL] at hb;subst hb;exact .inl hl.symm
   | false=>exact ih
theorem At.pick (x:At B h0 Γ Λ F n a w) (l m:List Nat):At B h0 (Qy (EI Γ l)) (NF (DK Λ m)) F n a w:=x.less (UL Γ l) (UM Λ m)
theorem At.fact (x:At B h0 Γ Λ F n a w) (s:Nat):∃ h,lD h0 h∧(Γ s).at h a s:=let ⟨h,_,hl,_,_,hs,_⟩:=x;⟨h,hl,hs s⟩
theorem At.bool {b:Bool} (x:At B h0 Γ Λ F n a w) (s:Nat) (hs:Γ s=fV Rep.bool b):a.eval (.tmp s) = .bool b:=by
 obtain ⟨h,_,hf⟩:=x.fact s
 rw [hs] at hf
 exact jY.1 hf
theorem aZ {s:Nat} {b:Bool} {x y:Code} (hAt:At B h0 Γ Λ F n a w) (hs:Γ s=fV Rep.bool b) (ht:b=true→x.oK ρ P Q a w) (hf:b=false→y.oK ρ P Q a w):(Code.cond (.tmp s) x y).oK ρ P Q a w :=
 wp_cond_split (hAt.bool s hs) ht hf
def aX {S O:Type} (f:S→Option (S ⊕ O)):Nat→S→Option O
 | 0,_=>none
 | n+1,s=>match f s with
  | none=>none
  | some (.inl s')=>aX f n s'
  | some (.inr o)=>some o
theorem bQ {S O:Type} {f:S→Option (S ⊕ O)} {body:Code} (Inv:S→Act→World→Prop) (Post:O→Exit→Act→World→Prop)
  (hb:∀ s r a w,f s=some r→Inv s a w→body.oK ρ P (fun e a' w'=>match r with | .inl s'=>e = .normal∧Inv s' a' w' | .inr o=>e ≠ .normal∧Post o e a' w') a w) :
  ∀ (N:Nat) (s:S) (o:O) (a:Act) (w:World),aX f N s=some o→Inv s a w→(Code.loop body).oK ρ P (Post o) a w:=by
 intro N s o a w hl hI b k cs hro hbf hrm
 have key:∀ N s a w,aX f N s=some o→Inv s a w →
   ∃ e a' w',Post o e a' w'∧ArrivesIn (Machine.fenced P (Wl ρ)) P (lone (b.atR a (.code body :: .inLoop body :: k)) cs w) b k cs e a' w':=by
  intro N
  induction N with
  | zero=>intro s a w h;cases h
  | succ N ih =>
   intro s a w h hI
   simp only [aX] at h
   cases hr:f s with
   | none=>rw [hr] at h;cases h
   | some r =>
    rw [hr] at h
    obtain ⟨e,a₁,w₁,hq,harr⟩:=hb s r a w hr hI b (.inLoop body :: k) cs hro hbf hrm
    cases r with
    | inl s' =>
     obtain ⟨rfl,hI'⟩:=hq
     obtain ⟨e₂,a₂,w₂,hq₂,harr₂⟩:=ih s' a₁ w₁ h hI'
     exact ⟨e₂,a₂,w₂,hq₂,.of_steps (StepsIn.trans harr (.one (fenced_calm hbf hrm rfl) stepR_inLoop)) harr₂⟩
    | inr o' =>
     cases h
     obtain ⟨hne,hp⟩:=hq
     exact ⟨e,a₁,w₁,hp,.pass (x:=.inLoop body) rfl (fun _ _=>.inl hne) harr⟩
 obtain ⟨e,a',w',hq,harr⟩:=key N s a w hl hI
 exact ⟨e,a',w',hq,.of_steps (.one (fenced_calm hbf hrm rfl) stepR_loop) harr⟩
theorem aK {X Y:Type} {m:Option X} {k:X→Option Y} {r:Y} (h:m.bind k=some r):∃ x,m=some x∧k x=some r:=by
 cases m with
 | none=>cases h
 | some x=>exact ⟨x,rfl,h⟩
theorem bM {X:Type} {b:Bool} {x y r:X} (hb:b=true) (h:(bif b then x else y)=r):x=r:=by subst hb;exact h
theorem dh {X:Type} {b:Bool} {x y r:X} (hb:b=false) (h:(bif b then x else y)=r):y=r:=by subst hb;exact h
def mM:List aO→Bool
 | []=>true
 | f :: r=>f.dep.isNone&&mM r
theorem jI:∀ {l:List aO},mM l=true→∀ g ∈ l,g.dep=none:=by
 intro l
 induction l with
 | nil=>intro _ g h;cases h
 | cons f r ih =>
  intro h g hg
  simp only [mM,Bool.and_eq_true] at h
  rcases List.mem_cons.1 hg with rfl | hg
  ·cases hx:g.dep with
   | none=>rfl
   | some d=>rw [hx] at h;cases h.1
  ·exact ih h.2 g hg
def FnOk (P:Program) (f:FuncId) (args:List aO) (post:aO):Prop :=
 ∀ (κ:Type) (B:Base) (L:κ→Option gQ) (h:H) (w:World) (vs:List Value),St B h L w→args.length=vs.length→(∀ (i:Nat) (g:aO) (v:Value),args[i]? = some g→vs[i]? = some v→g.p h undef v) →
  Calls P f vs.toArray w (fun e w'=>∃ v h',e = .returned v∧lD h h'∧St B h' L w'∧post.p h' undef v)
def Jm (P:Program) (fn:Func) {κ:Type} (B:Base) (h0:H) (F:κ→Option gQ) (post:aO):Exit→Act→World→Prop :=
 fun e a w=>B.df=[]→IQ P fn (fun e w'=>∃ v h',e = .returned v∧lD h0 h'∧St B h' F w'∧post.p h' undef v) e a w
def Ci:Nat→List aO→List (Nat×aO)
 | _,[]=>[]
 | i,f :: r=>(i,f) :: Ci (i+1) r
theorem Bg:∀ (l:List aO) (i s:Nat),L6 (Ci i l) s=aO.pX∨∃ j f,l[j]? = some f∧s=i+j∧L6 (Ci i l) s=f:=by
 intro l
 induction l with
 | nil=>intro i s;exact .inl rfl
 | cons f r ih =>
  intro i s
  simp only [Ci,L6]
  cases hb:Nat.beq i s with
  | true=>rw [kL] at hb;subst hb;exact .inr ⟨0,f,rfl,rfl,rfl⟩
  | false =>
   rcases ih (i+1) s with h1 | ⟨j,g,h1,h2,h3⟩
   ·exact .inl h1
   ·exact .inr ⟨j+1,g,h1,by omega,h3⟩
theorem St.Rw {h:H} (s:St B h F w):St B h (Sum.elim (fun _:Nat=>(none:Option gQ)) F) w:=by
 refine ⟨s.low,s.base,fun x=>s.ext x,?_,?_,s.mark,fun x i y=>s.nf x i y⟩
 ·intro k e hk
  cases k with
  | inl k=>cases hk
  | inr k=>exact s.own hk
 ·intro k k' e e' hk hk' hne
  cases k with
  | inl k=>cases hk
  | inr k=>cases k' with
   | inl k'=>cases hk'
   | inr k'=>exact s.zN hk hk' (fun e=>hne (by rw [e]))
theorem St.right {h:H} {L:Nat→Option gQ} (s:St B h (Sum.elim L F) w):St B h F w :=
 s.Dc Sum.inr (fun _ _ x=>x) (fun _ _ _ _ _ _ n e=>n (Sum.inr.inj e))
theorem bP {f:FuncId} {fn:Func} {c:Code} {args:List aO} {post:aO} (hf:P.funcs[f]? = some fn) (hb:fn.body=some c) (hn:fn.ntmps=n) (rV:(Nat.ble args.length n&&mM args)=true)
  (hwp:∀ (κ:Type) (B:Base) (h0:H) (F:κ→Option gQ) (a:Act) (w:World),At B h0 (Qy (Ci 0 args)) (NF []) F n a w→c.oK none P (Jm P fn B h0 F post) a w):FnOk P f args post:=by
 intro κ B L h w vs hst hl hargs
 rw [Bool.and_eq_true,Nat.ble_eq] at rV
 obtain ⟨hlen,hdp⟩:=rV
 have yI:=jI hdp
 refine xk rfl hf hb (hwp _ B.e h L _ w ⟨h,fun _=>none,lD.refl h,(St.Rw hst).toE,fun s q hq=>(by cases hq),?_,?_,rfl⟩) (fun _ _ ⟨v,h',he,hl,hs,hp⟩=>⟨v,h',he,hl,hs.ofE,hp⟩)
 ·intro s
  rcases Bg args 0 s with h1 | ⟨j,g,h1,h2,h3⟩
  ·show (L6 (Ci 0 args) s).at _ _ _;rw [h1];exact trivial
  ·show (L6 (Ci 0 args) s).at _ _ _;rw [h3]
   have hj:=(List.getElem?_eq_some_iff.1 h1).1
   have hv:vs[j]? = some vs[j]:=List.getElem?_eq_getElem (by omega)
   have:=hargs j g _ h1 hv
   unfold aO.at aO.dv
   rw [yI g (List.mem_of_getElem? h1)]
   have he:Act.gt { tmps:=vs.toArray ++ Array.replicate (fn.ntmps - vs.toArray.size) undef,defers:=[] } s=vs[j]:=by
    rw [h2,Nat.zero_add]
    simp only [Act.gt,Array.getD_eq_getD_getElem?]
    rw [Array.getElem?_append_left (by simp;omega)]
    simp [hv]
   rw [he];exact this
 ·simp;omega
def Uc:aO:=⟨none,fun _ _ v=>v = .tuple #[],fun _ x=>x⟩
def BJ (f g:aO):aO:=⟨none,fun h _ v=>∃ x y,v = .tuple #[x,y]∧f.p h undef x∧g.p h undef y,fun hl ⟨x,y,e,a,b⟩=>⟨x,y,e,f.mono hl a,g.mono hl b⟩⟩
def fT3 (f g i:aO):aO:=⟨none,fun h _ v=>∃ x y z,v = .tuple #[x,y,z]∧f.p h undef x∧g.p h undef y∧i.p h undef z,fun hl ⟨x,y,z,e,a,b,c⟩=>⟨x,y,z,e,f.mono hl a,g.mono hl b,i.mono hl c⟩⟩
section
variable {o:Oper} {N:List (Nat×aO)} {x:Operand} {f g i:aO}
theorem mD (hd:f.dep=none) (ho:o.op = .extract x 0) (hx:bJ N x (BJ f g)):dw P o N [] f [] :=
 dw.lX fun h a w _ q=>by
  obtain ⟨u,v,e,p1,_⟩:=hx h a q
  exact ⟨u,by simp [execOp,ho,e,Instr.extract],by unfold aO.dv;rw [hd];exact p1⟩
theorem jo (hd:g.dep=none) (ho:o.op = .extract x 1) (hx:bJ N x (BJ f g)):dw P o N [] g [] :=
 dw.lX fun h a w _ q=>by
  obtain ⟨u,v,e,_,p2⟩:=hx h a q
  exact ⟨v,by simp [execOp,ho,e,Instr.extract],by unfold aO.dv;rw [hd];exact p2⟩
theorem FW (hd:f.dep=none) (ho:o.op = .extract x 0) (hx:bJ N x (fT3 f g i)):dw P o N [] f [] :=
 dw.lX fun h a w _ q=>by
  obtain ⟨u,v,z,e,p1,_⟩:=hx h a q
  exact ⟨u,by simp [execOp,ho,e,Instr.extract],by unfold aO.dv;rw [hd];exact p1⟩
theorem FX (hd:g.dep=none) (ho:o.op = .extract x 1) (hx:bJ N x (fT3 f g i)):dw P o N [] g [] :=
 dw.lX fun h a w _ q=>by
  obtain ⟨u,v,z,e,_,p2,_⟩:=hx h a q
  exact ⟨v,by simp [execOp,ho,e,Instr.extract],by unfold aO.dv;rw [hd];exact p2⟩
theorem FY (hd:i.dep=none) (ho:o.op = .extract x 2) (hx:bJ N x (fT3 f g i)):dw P o N [] i [] :=
 dw.lX fun h a w _ q=>by
  obtain ⟨u,v,z,e,_,_,p3⟩:=hx h a q
  exact ⟨z,by simp [execOp,ho,e,Instr.extract],by unfold aO.dv;rw [hd];exact p3⟩
end
def resV (tmps:Array Value):ResultVar→Sem Value
 | .tmp t=>pure (tmps.getD t undef)
 | .cell a t=>do loadVar t (← asAddr (tmps.getD a undef))
def J8 (P:Program) (Γ:Ctx) (Λ:Own) (rv:ResultVar) (g:aO):Prop :=
 ∀ (κ:Type) (B:Base) (F:κ→Option gQ) (h:H) (a:Act) (w:World),∀ L,St B h (Sum.elim L F) w→L8 Λ L a→Sat Γ h a→∃ v,(resV a.tmps rv).run P w = .ok v w∧g.p h undef v
theorem aV {s:Nat} {g:aO} (hd:g.dep=none) (hs:Γ s=g):J8 P Γ Λ (.tmp s) g:=by
 intro κ B F h a w L _ _ qY
 have hf:=qY s
 rw [hs] at hf
 unfold aO.at aO.dv at hf
 rw [hd] at hf
 exact ⟨a.gt s,rfl,hf⟩
theorem jh {α:Type} {r:Rep α} {x:α} {T:TypeId} {s:Nat} (t:iV P T r) (hs:Λ s=some (dM T r x)):J8 P Γ Λ (.cell s T) (fV r x):=by
 intro κ B F h a w L hst yQ qY
 obtain ⟨e,hL,b,hv,rfl⟩:=yQ s _ hs
 obtain ⟨cs,hb,hrel⟩:=Fa hst hL
 obtain ⟨c,hc,hrun⟩:=zh t (Lens.refl r) hb hrel
 refine ⟨pack r.agg c,?_,c,hc,rfl⟩
 have hv':a.tmps.getD s undef = .pointer (some ⟨b,0,none⟩):=hv
 have hrun':(loadVar T ⟨b,0,none⟩).run P w = .ok (pack r.agg c) w:=by simpa [Instr.loadAt,Instr.sureAddr] using hrun
 simp only [resV,hv',asAddr,Sem.run_bind,Sem.run_pure,Result.andThen_ok,hrun']
theorem wH (fn:Func) (tmps:Array Value):results fn tmps=(do let vs ← fn.results.mapM (resV tmps);pure (if h:vs.size=1 then vs[0] else .tuple vs)):=by
 unfold results
 congr 2
theorem gY {fn:Func} {rv:ResultVar} {g:aO} (hr:fn.results = #[rv]) (h1:J8 P Γ Λ rv g) (hAt:At B h0 Γ Λ F n a w):Jm P fn B h0 F g .ret a w:=by
 obtain ⟨h,L,hl,hst,yQ,qY,_,hdf⟩:=hAt
 obtain ⟨v,hv,hp⟩:=h1 _ B F h a w L hst yQ qY
 refine fun hB=>.inl ⟨hdf.trans hB,v,?_,v,h,rfl,hl,hst.right,hp⟩
 rw [wH];simp [hr,hv]
theorem uH {fn:Func} {rv rv':ResultVar} {g g':aO} (hr:fn.results = #[rv,rv']) (h1:J8 P Γ Λ rv g) (h2:J8 P Γ Λ rv' g') (hAt:At B h0 Γ Λ F n a w):Jm P fn B h0 F (BJ g g') .ret a w:=by
 obtain ⟨h,L,hl,hst,yQ,qY,_,hdf⟩:=hAt
 obtain ⟨v,hv,hp⟩:=h1 _ B F h a w L hst yQ qY
 obtain ⟨v',hv',hp'⟩:=h2 _ B F h a w L hst yQ qY
 refine fun hB=>.inl ⟨hdf.trans hB,.tuple #[v,v'],?_,_,h,rfl,hl,hst.right,v,v',rfl,hp,hp'⟩
 rw [wH];simp [hr,hv,hv']
theorem Um {fn:Func} {rv rv' rv'':ResultVar} {g g' g'':aO} (hr:fn.results = #[rv,rv',rv'']) (h1:J8 P Γ Λ rv g) (h2:J8 P Γ Λ rv' g') (h3:J8 P Γ Λ rv'' g'') (hAt:At B h0 Γ Λ F n a w):Jm P fn B h0 F (fT3 g g' g'') .ret a w:=by
 obtain ⟨h,L,hl,hst,yQ,qY,_,hdf⟩:=hAt
 obtain ⟨v,hv,hp⟩:=h1 _ B F h a w L hst yQ qY
 obtain ⟨v',hv',hp'⟩:=h2 _ B F h a w L hst yQ qY
 obtain ⟨v'',hv'',hp''⟩:=h3 _ B F h a w L hst yQ qY
 refine fun hB=>.inl ⟨hdf.trans hB,.tuple #[v,v',v''],?_,_,h,rfl,hl,hst.right,v,v',v'',rfl,hp,hp',hp''⟩
 rw [wH];simp [hr,hv,hv',hv'']
def qm (fn:Func):Bool:=fn.body.isSome && !(fn.name == "runtime.NumGoroutine")
def qA (N:List (Nat×aO)):List aO→List Operand→Prop
 | [],[]=>True
 | g :: gs,x :: xs=>bJ N x g∧qA N gs xs
 | _,_=>False
theorem qA.spec {N:List (Nat×aO)}:∀ {gs:List aO} {xs:List Operand},qA N gs xs→gs.length=xs.length∧∀ (i:Nat) (g:aO) (x:Operand),gs[i]? = some g→xs[i]? = some x→bJ N x g:=by
 intro gs
 induction gs with
 | nil=>intro xs h;cases xs with
  | nil=>exact ⟨rfl,fun i g x h=>by simp at h⟩
  | cons _ _=>exact h.elim
 | cons g gs ih =>
  intro xs h
  cases xs with
  | nil=>exact h.elim
  | cons x xs =>
   obtain ⟨h1,h2⟩:=h
   obtain ⟨h3,h4⟩:=ih h2
   refine ⟨by simp [h3],fun i g' x' hg hx=>?_⟩
   cases i with
   | zero=>cases hg;cases hx;exact h1
   | succ i=>exact h4 i g' x' (by simpa using hg) (by simpa using hx)
theorem Af {f:FuncId} {fn:Func} {args:List aO} {post:aO} {xs:Array Operand} {ts:Array TypeId} {N:List (Nat×aO)} {o:Oper} (hc:FnOk P f args post) (hf:P.funcs[f]? = some fn) (hb:qm fn=true) (hd:mM (post :: args)=true)
  (ho:o.op = .call { callee:=.value (.func f),args:=xs,argTypes:=ts }) (hargs:qA N args xs.toList):dw P o N [] post []:=by
 intro κ B F L h a w hst hn _ _ next Q hnext _
 simp only [qm,Bool.and_eq_true,Bool.not_eq_true'] at hb
 have hbody:fn.body≠none:=by
  intro hx;rw [hx] at hb;cases hb.1
 have hname:fn.name ≠ "runtime.NumGoroutine":=by simpa using hb.2
 have hdp:=jI hd
 obtain ⟨hlen,hall⟩:=hargs.spec
 unfold Oper.oK
 have:(execOp a.eval o).run P w = .ok (.enter f (xs.toList.map a.eval).toArray) w:=by
  have e:(xs.toList.map a.eval).toArray=xs.map a.eval:=by apply Array.ext';simp
  rw [e]
  simp [execOp,ho,resolve,Act.eval,Deferred.ofValue,invoke,callFunc,hf,hname,hbody]
 rw [this,zu]
 refine (hc _ B (Sum.elim L F) h w (xs.toList.map a.eval) hst (by rw [List.length_map];exact hlen) ?_).mono ?_
 ·intro i g v hg hv
  rw [List.getElem?_map] at hv
  cases hx:xs.toList[i]? with
  | none=>rw [hx] at hv;cases hv
  | some x =>
   rw [hx] at hv;cases hv
   have:=hall i g x hg hx h a hn
   unfold aO.dv at this
   rw [hdp g (List.mem_cons_of_mem _ (List.mem_of_getElem? hg))] at this
   exact this
 ·rintro e w' ⟨v,h',rfl,hl,hst',hp⟩
  refine hnext v h' w' L hl ?_ hst' lU
  unfold aO.dv
  rw [hdp post List.mem_cons_self]
  exact hp
end Go.KB
namespace Go.KB
def CB (n:Nat):List Oper→Bool
 | []=>true
 | o :: os=>(match o.dst with | some d=>Nat.blt d n | none=>true)&&CB n os
theorem Gy {n:Nat}:∀ {l:List Oper},CB n l=true→∀ o ∈ l,∀ d,o.dst=some d→d<n:=by
 intro l
 induction l with
 | nil=>intro _ o h;cases h
 | cons x r ih =>
  intro h o ho d hd
  simp only [CB,Bool.and_eq_true] at h
  rcases List.mem_cons.1 ho with rfl | ho
  ·have:=h.1;rw [hd] at this;simpa [Nat.blt_eq] using this
  ·exact ih h.2 o ho d hd
variable {ρ:Option Nat} {P:Program} {κ:Type} {B:Base} {h0:H} {Γ:Ctx} {Λ:Own} {F:κ→Option gQ} {n:Nat} {a:Act} {w:World} {Q:Exit→Act→World→Prop}
theorem reg {id:Nat} {ops:Array Oper} (sp:List OS) (l m:List Nat) (hAt:At B h0 Γ Λ F n a w) (DL:LD P sp ops.toList Γ Λ ops.toList sp)
  (rV:(chk Γ Λ false ops.toList sp&&CB n ops.toList)=true)
  (hnext:∀ a w,At B h0 (Qy (EI (Gz Γ ops.toList sp) l)) (NF (DK (Ae Λ ops.toList sp) m)) F n a w→Q .normal a w):(Code.region id ops false).oK ρ P Q a w:=by
 rw [Bool.and_eq_true] at rV
 exact YU sp hAt DL rV.1 (Gy rV.2) (fun a w x=>hnext a w (x.pick l m))
theorem regd {id:Nat} {ops:Array Oper} (sp:List OS) (rt rg l m:List Nat) (hAt:At B h0 Γ Λ F n a w) (DL:LD P sp ops.toList Γ Λ ops.toList sp)
  (rV:(chk Γ Λ true ops.toList sp&&inRange ops.size ops.toList&&xu .text rt 0 ops.toList&&xu .gc rg 0 ops.toList&&xu .any rt 0 ops.toList&&CB n ops.toList)=true)
  (hnext:∀ a w,At B h0 (Qy (EI (Gz Γ ops.toList sp) l)) (NF (DK (Ae Λ ops.toList sp) m)) F n a w→Q .normal a w):(Code.region id ops true).oK ρ P Q a w:=by
 rw [Bool.and_eq_true] at rV
 exact WH sp rt rg hAt DL rV.1 (Gy rV.2) (fun a w x=>hnext a w (x.pick l m))
theorem rg {id:Nat} {ops:Array Oper} (sp:List OS) (Γ':List (Nat×aO)) (Λ':List (Nat×(gK))) (hAt:At B h0 Γ Λ F n a w) (DL:LD P sp ops.toList Γ Λ ops.toList sp)
  (hnext:∀ a w,At B h0 (Qy Γ') (NF Λ') F n a w→Q .normal a w)
  (rV:(chk Γ Λ false ops.toList sp&&CB n ops.toList)=true:=by kernel_rfl) (hg:EI (Gz Γ ops.toList sp) (Γ'.map (·.1))=Γ':=by rfl) (hl:DK (Ae Λ ops.toList sp) (Λ'.map (·.1))=Λ':=by rfl):(Code.region id ops false).oK ρ P Q a w :=
 reg sp _ _ hAt DL rV (fun a w x=>hnext a w (by rw [hg,hl] at x;exact x))
theorem rd {id:Nat} {ops:Array Oper} (sp:List OS) (rt rg:List Nat) (Γ':List (Nat×aO)) (Λ':List (Nat×(gK))) (hAt:At B h0 Γ Λ F n a w) (DL:LD P sp ops.toList Γ Λ ops.toList sp)
  (hnext:∀ a w,At B h0 (Qy Γ') (NF Λ') F n a w→Q .normal a w)
  (rV:(chk Γ Λ true ops.toList sp&&inRange ops.size ops.toList&&xu .text rt 0 ops.toList&&xu .gc rg 0 ops.toList&&xu .any rt 0 ops.toList&&CB n ops.toList)=true:=by kernel_rfl) (hg:EI (Gz Γ ops.toList sp) (Γ'.map (·.1))=Γ':=by rfl) (hl:DK (Ae Λ ops.toList sp) (Λ'.map (·.1))=Λ':=by rfl):(Code.region id ops true).oK ρ P Q a w :=
 regd sp rt rg _ _ hAt DL rV (fun a w x=>hnext a w (by rw [hg,hl] at x;exact x))
def QH (P:Program) (f:FuncId):Bool:=match P.funcs[f]? with | some fn=>qm fn | none=>false
theorem oW {f:FuncId} {args:List aO} {post:aO} {xs:Array Operand} {ts:Array TypeId} {N:List (Nat×aO)} {o:Oper} (hc:FnOk P f args post)
  (ho:o.op = .call { callee:=.value (.func f),args:=xs,argTypes:=ts }) (hargs:qA N args xs.toList) (hb:QH P f=true:=by kernel_rfl) (hd:mM (post :: args)=true:=by kernel_rfl):dw P o N [] post []:=by
 unfold QH at hb
 cases hf:P.funcs[f]? with
 | none=>rw [hf] at hb;cases hb
 | some fn=>rw [hf] at hb;exact Af hc hf hb hd ho hargs
theorem qA.id:∀ {M:List (Nat×aO)} {N:List (Nat×aO)},(∀ h a,AU N h a→AU M h a)→qA N (M.map (·.2)) (M.map fun q=>.tmp q.1):=by
 intro M
 induction M with
 | nil=>intro N _;trivial
 | cons q M ih=>intro N hM;exact ⟨fun h a n=>(hM h a n).1,ih fun h a n=>(hM h a n).2⟩
theorem dG {f:FuncId} {args:List aO} {post:aO} {xs:Array Operand} {ts:Array TypeId} {N:List (Nat×aO)} {o:Oper} (hc:FnOk P f args post)
  (ho:o.op = .call { callee:=.value (.func f),args:=xs,argTypes:=ts }) (ha:args=N.map (·.2):=by rfl) (hx:xs.toList=N.map (fun q=>.tmp q.1):=by rfl) (hb:QH P f=true:=by kernel_rfl) (hd:mM (post :: args)=true:=by kernel_rfl):dw P o N [] post [] :=
 oW hc ho (by rw [hx,ha];exact qA.id fun _ _ n=>n) hb hd
abbrev AG {κ:Type} (B:Base) (h0:H) (g:List (Nat×aO)) (l:List (Nat×(gK))) (F:κ→Option gQ) (n:Nat) (a:Act) (w:World):Prop:=At B h0 (Qy g) (NF l) F n a w
abbrev sp (f:aO) (r:List (Nat×Option Nat)):OS:=⟨f,[],r,[]⟩
abbrev si (v:Int) (r:List (Nat×Option Nat)):OS:=⟨fV (Rep.int .i64) v,[],r,[]⟩
abbrev sw (v:Int) (r:List (Nat×Option Nat)):OS:=⟨fV (Rep.int .u64) v,[],r,[]⟩
abbrev sb (v:Bool) (r:List (Nat×Option Nat)):OS:=⟨fV Rep.bool v,[],r,[]⟩
abbrev sr {α:Type} (q:Rep α) (v:α) (r:List (Nat×Option Nat)):OS:=⟨bT q v,[],r,[]⟩
abbrev sv {α:Type} (q:Rep α) (v:α) (r:List (Nat×Option Nat)):OS:=⟨fV q v,[],r,[]⟩
abbrev sk (f:aO) (k:List (Nat×Option Nat)):OS:=⟨f,[],[],k⟩
theorem At.pk {κ:Type} {B:Base} {h0:H} {Γ:Ctx} {Λ:Own} {F:κ→Option gQ} {n:Nat} {a:Act} {w:World} (x:At B h0 Γ Λ F n a w) (Γ':List (Nat×aO)) (Λ':List (Nat×gK)) (hg:EI Γ (Γ'.map (·.1))=Γ':=by rfl) (hl:DK Λ (Λ'.map (·.1))=Λ':=by rfl):At B h0 (Qy Γ') (NF Λ') F n a w:=by
 have:=x.pick (Γ'.map (·.1)) (Λ'.map (·.1))
 rw [hg,hl] at this
 exact this
theorem aG:True:=trivial
abbrev rSt:Rep Str:=Rep.str
abbrev aA {f:aO} (a b:Nat):OS:=⟨f,[],[(a,some b)],[]⟩
abbrev aC {f:aO} (a:Nat):OS:=⟨f,[],[(a,none)],[]⟩
abbrev xG {f:aO} (a:Nat):OS:=⟨f,[],[],[(a,none)]⟩
abbrev sq {f:aO} (r:List (Nat×Option Nat)):OS:=⟨f,[],r,[]⟩
abbrev sz {f:aO} (k:List (Nat×Option Nat)):OS:=⟨f,[],[],k⟩
abbrev sy {f:aO} (r k:List (Nat×Option Nat)):OS:=⟨f,[],r,k⟩
abbrev sa (n:Nat) (q:gK):OS:=⟨aO.pX,[(n,some q)],[],[]⟩
abbrev sx (n:Nat) (q:gK) (r k:List (Nat×Option Nat)):OS:=⟨aO.pX,[(n,some q)],r,k⟩
abbrev ids (n:Nat):List Nat:=List.range n
abbrev ss (n m:Nat):Nat×Option Nat:=(n,some m)
abbrev nn (n:Nat):Nat×Option Nat:=(n,none)
abbrev ft:aO:=aO.pX
abbrev fI (v:Int):aO:=fV (Rep.int .i64) v
abbrev fB (v:Bool):aO:=fV Rep.bool v
abbrev fU (v:List Int):aO:=fV (Rep.slice (Rep.int .u16)) v
abbrev rI:Rep (List Int):=Rep.slice (Rep.int .i64)
abbrev wI:Int→Int:=IntKind.i64.wrap
end Go.KB
namespace Go.KB
section
variable {K:Act→World→Prop} {Q:Exit→Act→World→Prop} {a:Act} {w:World} {i j:Nat}
theorem dZ (h:Q (.exit i) a w):Exit.then K Q (.exit i) a w:=h
theorem fK (h:Q .normal a w):Exit.inBlock i Q .normal a w:=h
theorem jr (h:Q .ret a w):Exit.inBlock i Q .ret a w:=h
theorem eF (h:Q .normal a w):Exit.inBlock i Q (.exit i) a w:=by simp [Exit.inBlock];exact h
theorem gZ:Exit.exit i ≠ .normal:=fun h=>by cases h
theorem nH:Exit.ret ≠ .normal:=fun h=>by cases h
end
def xE (v:Value):aO:=⟨none,fun _ _ u=>u=v,fun _ x=>x⟩
def UH (d:Option Nat) (s:Nat):Bool:=match d with | some d=>!(Nat.beq d s) | none=>true
end Go.KB
namespace Go.KB
variable {P:Program} {o:Oper} {N:List (Nat×aO)} {α β γ:Type}
def fF (P:Program) {ι:Type} (A:ι→List aO) (R:ι→aO):aO :=
 ⟨none,fun h _ v=>∃ f fn cap,v = .func (.func f) #[] cap∧P.funcs[f]? = some fn∧qm fn=true∧∀ i (κ:Type) (B:Base) (L:κ→Option gQ) (h':H) (w:World) (vs:List Value),lD h h'→St B h' L w→(A i).length=vs.length →
   (∀ (j:Nat) (g:aO) (v:Value),(A i)[j]? = some g→vs[j]? = some v→g.p h' undef v)→Calls P f (vs.toArray ++ cap) w (fun e w'=>∃ v h'',e = .returned v∧lD h' h''∧St B h'' L w'∧(R i).p h'' undef v),
  fun hl ⟨f,fn,cap,e,hf,hb,k⟩=>⟨f,fn,cap,e,hf,hb,fun i κ B L h' w vs hl'=>k i κ B L h' w vs (hl.trans hl')⟩⟩
def Rf (P:Program) (r:Rep α) (q:Rep β) (φ:α→Option β):aO:=fF P (ι:={p:α×β // φ p.1=some p.2}) (fun p=>[fV r p.1.1]) (fun p=>fV q p.1.2)
def G7 (P:Program) (r:Rep α) (s:Rep γ) (q:Rep β) (φ:α→γ→Option β):aO:=fF P (ι:={p:α×γ×β // φ p.1 p.2.1=some p.2.2}) (fun p=>[fV r p.1.1,fV s p.1.2.1]) (fun p=>fV q p.1.2.2)
theorem YV {ι:Type} {A:ι→List aO} {R:ι→aO} {C:List aO} {f:FuncId} {fn:Func} {xs:Array Operand} (hc:∀ i,FnOk P f (A i ++ C) (R i)) (hf:P.funcs[f]? = some fn) (hb:qm fn=true) (hd:mM C=true)
    (ho:o.op = .makeFunc (.func f) #[] xs) (hargs:qA N C xs.toList):dw P o N [] (fF P A R) [] :=
  dw.lX fun h a w _ hn=>by
    have hdp:=jI hd
    obtain ⟨hlen,hall⟩:=hargs.spec
    refine ⟨.func (.func f) #[] (xs.map a.eval),by simp [execOp,ho,Instr.makeFunc],f,fn,_,rfl,hf,hb,fun i κ B L h' w' vs hl hst hvl hvs=>?_⟩
    have e:vs.toArray ++ xs.map a.eval=(vs ++ xs.toList.map a.eval).toArray:=by apply Array.ext';simp
    rw [e]
    refine hc i κ B L h' w' _ hst (by simp [hvl,hlen]) fun j g v hg hv=>?_
    by_cases hj:j<vs.length
    · rw [List.getElem?_append_left (by rw [hvl]; exact hj)] at hg
      rw [List.getElem?_append_left hj] at hv
      exact hvs j g v hg hv
    · rw [List.getElem?_append_right (by rw [hvl]; omega)] at hg
      rw [List.getElem?_append_right (by omega),List.getElem?_map] at hv
      rw [hvl] at hg
      cases hx:xs.toList[j - vs.length]? with
      | none=>rw [hx] at hv;cases hv
      | some x =>
        rw [hx] at hv;cases hv
        have:=hall _ g x hg hx h a hn
        unfold aO.dv at this
        rw [hdp g (List.mem_of_getElem? hg)] at this
        exact g.mono hl this
theorem Nw {r:Rep α} {q:Rep β} {φ:α→Option β} {C:List aO} {f:FuncId} {fn:Func} {xs:Array Operand} (hc:∀ x y,φ x=some y→FnOk P f (fV r x :: C) (fV q y)) (hf:P.funcs[f]? = some fn) (hb:qm fn=true) (hd:mM C=true)
  (ho:o.op = .makeFunc (.func f) #[] xs) (hargs:qA N C xs.toList):dw P o N [] (Rf P r q φ) []:=YV (fun i=>hc _ _ i.2) hf hb hd ho hargs
theorem OZ {ι:Type} {A:ι→List aO} {R:ι→aO} (i:ι) {z:Operand} {xs:Array Operand} {ts:Array TypeId} (hd:mM (R i :: A i)=true) (ho:o.op = .call { callee:=.value z,args:=xs,argTypes:=ts })
  (hz:bJ N z (fF P A R)) (hargs:qA N (A i) xs.toList):dw P o N [] (R i) []:=by
 intro κ B F L h a w hst hn _ _ next Q hnext _
 obtain ⟨f,fn,cap,hv,hf,hb,hk⟩:=hz h a hn
 simp only [qm,Bool.and_eq_true,Bool.not_eq_true'] at hb
 have hbody:fn.body≠none:=by
  intro hx;rw [hx] at hb;cases hb.1
 have hname:fn.name ≠ "runtime.NumGoroutine":=by simpa using hb.2
 have hdp:=jI hd
 obtain ⟨hlen,hall⟩:=hargs.spec
 unfold Oper.oK
 have:(execOp a.eval o).run P w = .ok (.enter f ((xs.toList.map a.eval).toArray ++ cap)) w:=by
  have e:(xs.toList.map a.eval).toArray=xs.map a.eval:=by apply Array.ext';simp
  rw [e]
  simp [execOp,ho,resolve,hv,Deferred.ofValue,invoke,callFunc,hf,hname,hbody]
 rw [this,zu]
 refine (hk i _ B (Sum.elim L F) h w (xs.toList.map a.eval) (lD.refl h) hst (by rw [List.length_map];exact hlen) ?_).mono ?_
 ·intro j g v hg hv
  rw [List.getElem?_map] at hv
  cases hx:xs.toList[j]? with
  | none=>rw [hx] at hv;cases hv
  | some x =>
   rw [hx] at hv;cases hv
   have:=hall j g x hg hx h a hn
   unfold aO.dv at this
   rw [hdp g (List.mem_cons_of_mem _ (List.mem_of_getElem? hg))] at this
   exact this
 ·rintro e w' ⟨v,h',rfl,hl,hst',hp⟩
  refine hnext v h' w' L hl ?_ hst' lU
  unfold aO.dv
  rw [hdp _ List.mem_cons_self]
  exact hp
theorem Hz {r:Rep α} {q:Rep β} {φ:α→Option β} {x:α} {y:β} (hq:φ x=some y) {z:Operand} {xs:Array Operand} {ts:Array TypeId} (ho:o.op = .call { callee:=.value z,args:=xs,argTypes:=ts })
  (hz:bJ N z (Rf P r q φ)) (hargs:qA N [fV r x] xs.toList):dw P o N [] (fV q y) []:=OZ (ι:={p:α×β // φ p.1=some p.2}) ⟨(x,y),hq⟩ rfl ho hz hargs
theorem D6 {r:Rep α} {s:Rep γ} {q:Rep β} {φ:α→γ→Option β} {x:α} {u:γ} {y:β} (hq:φ x u=some y) {z:Operand} {xs:Array Operand} {ts:Array TypeId} (ho:o.op = .call { callee:=.value z,args:=xs,argTypes:=ts })
  (hz:bJ N z (G7 P r s q φ)) (hargs:qA N [fV r x,fV s u] xs.toList):dw P o N [] (fV q y) []:=OZ (ι:={p:α×γ×β // φ p.1 p.2.1=some p.2.2}) ⟨(x,u,y),hq⟩ rfl ho hz hargs
def fNil (xs:List α):aO:=⟨none,fun _ _ v=>∃ b,v = .bool b∧(b=true→xs=[]),fun _ x=>x⟩
theorem OA {T T' E:TypeId} {r:Rep α} {x:Operand} {xs:List α} (hT:P.underlying T=some (.slice E)) (ho:o.op = .binOp .eql T x (.const (.slice none 0 0)) T') (hx:bJ N x (fV (Rep.slice r) xs)):dw P o N [] (fNil xs) [] :=
 dw.lX fun h a w _ n=>by
  have hg:∀ v,eqGuard .eql T x (.const (.slice none 0 0)) v (.slice none 0 0)=pure ():=by
   intro v;unfold eqGuard;cases v <;> rfl
  rcases jR.1 (hx h a n) with ⟨⟨base,hv⟩,rfl⟩ | ⟨b,off,cap,hv,_⟩
  ·cases base with
   | some a0=>exact ⟨.bool false,by simp only [execOp,ho,hv];show ((do eqGuard _ _ _ _ _ (.slice none 0 0);binOp .eql T (.slice _ _ _) (.slice none 0 0)) >>= fun v=>pure (Next.value v)).run P w=_;rw [hg];simp [Lib.run_eql_slice_some_nil w _ _ _ hT],false,rfl,fun h=>by cases h⟩
   | none=>exact ⟨.bool true,by simp only [execOp,ho,hv];show ((do eqGuard _ _ _ _ _ (.slice none 0 0);binOp .eql T (.slice none 0 0) (.slice none 0 0)) >>= fun v=>pure (Next.value v)).run P w=_;rw [hg];simp [Lib.run_eql_slice_nil_nil w _ _ hT],true,rfl,fun _=>rfl⟩
  ·exact ⟨.bool false,by simp only [execOp,ho,hv];show ((do eqGuard _ _ _ _ _ (.slice none 0 0);binOp .eql T (.slice _ _ _) (.slice none 0 0)) >>= fun v=>pure (Next.value v)).run P w=_;rw [hg];simp [Lib.run_eql_slice_some_nil w _ _ _ hT],false,rfl,fun h=>by cases h⟩
section
variable {κ:Type} {B:Base} {h0:H} {Γ:Ctx} {Λ:Own} {F:κ→Option gQ} {n:Nat} {a:Act} {w:World} {Q:Exit→Act→World→Prop}
theorem OB {ρ:Option Nat} {s:Nat} {xs:List α} {x y:Code} (hAt:At B h0 Γ Λ F n a w) (hs:Γ s=fNil xs) (ht:xs=[]→x.oK ρ P Q a w) (hf:y.oK ρ P Q a w):(Code.cond (.tmp s) x y).oK ρ P Q a w:=by
 obtain ⟨h,_,_,_,_,qY,_⟩:=hAt
 have:=qY s
 rw [hs] at this
 obtain ⟨b,hb,hx⟩:=this
 exact wp_cond_split (show Act.eval a (.tmp s)=_ from hb) (fun e=>ht (hx e)) (fun _=>hf)
end
def IJ (P:Program) (f:FuncId) (args:List aO) (q:gK) (post:aO):Prop :=
 ∀ (κ:Type) (B:Base) (L:κ→Option gQ) (h:H) (w:World) (vs:List Value),St B h L w→args.length=vs.length→(∀ (i:Nat) (g:aO) (v:Value),args[i]? = some g→vs[i]? = some v→g.p h undef v) →
  Calls P f vs.toArray w (fun e w'=>∃ v h' x,e = .returned v∧lD h h'∧St B h' (Sum.elim (fun _:Unit=>some x) L) w'∧post.p h' undef v∧q v x)
def yw (q:gK):gK:=fun v e=>∃ x y,v = .tuple #[x,y]∧q x e
def Gx (P:Program) (fn:Func) {κ:Type} (B:Base) (h0:H) (F:κ→Option gQ) (q:gK) (post:aO):Exit→Act→World→Prop :=
 fun e a w=>B.df=[]→IQ P fn (fun e w'=>∃ v h' x,e = .returned v∧lD h0 h'∧St B h' (Sum.elim (fun _:Unit=>some x) F) w'∧post.p h' undef v∧q v x) e a w
theorem D5 {n:Nat} {f:FuncId} {fn:Func} {c:Code} {args:List aO} {q:gK} {post:aO} (hf:P.funcs[f]? = some fn) (hb:fn.body=some c) (hn:fn.ntmps=n) (rV:(Nat.ble args.length n&&mM args)=true)
  (hwp:∀ (κ:Type) (B:Base) (h0:H) (F:κ→Option gQ) (a:Act) (w:World),At B h0 (Qy (Ci 0 args)) (NF []) F n a w→c.oK none P (Gx P fn B h0 F q post) a w):IJ P f args q post:=by
 intro κ B L h w vs hst hl hargs
 rw [Bool.and_eq_true,Nat.ble_eq] at rV
 obtain ⟨hlen,hdp⟩:=rV
 have yI:=jI hdp
 refine xk rfl hf hb (hwp _ B.e h L _ w ⟨h,fun _=>none,lD.refl h,(St.Rw hst).toE,fun s q hq=>(by cases hq),?_,?_,rfl⟩) (fun _ _ ⟨v,h',x,he,hl,hs,hp⟩=>⟨v,h',x,he,hl,hs.ofE,hp⟩)
 ·intro s
  rcases Bg args 0 s with h1 | ⟨j,g,h1,h2,h3⟩
  ·show (L6 (Ci 0 args) s).at _ _ _;rw [h1];exact trivial
  ·show (L6 (Ci 0 args) s).at _ _ _;rw [h3]
   have hj:=(List.getElem?_eq_some_iff.1 h1).1
   have hv:vs[j]? = some vs[j]:=List.getElem?_eq_getElem (by omega)
   have:=hargs j g _ h1 hv
   unfold aO.at aO.dv
   rw [yI g (List.mem_of_getElem? h1)]
   have he:Act.gt { tmps:=vs.toArray ++ Array.replicate (fn.ntmps - vs.toArray.size) undef,defers:=[] } s=vs[j]:=by
    rw [h2,Nat.zero_add]
    simp only [Act.gt,Array.getD_eq_getD_getElem?]
    rw [Array.getElem?_append_left (by simp;omega)]
    simp [hv]
   rw [he];exact this
 ·simp;omega
section
variable {κ:Type} {B:Base} {h h0:H} {L:Nat→Option gQ} {Γ:Ctx} {Λ:Own} {F:κ→Option gQ} {n:Nat} {a:Act} {w:World} {q:gK}
theorem St.one (hst:St B h (Sum.elim L F) w) (s:Nat) {e:gQ} (hL:L s=some e):St B h (Sum.elim (fun _:Unit=>some e) F) w:=by
 refine hst.Dc (fun k=>match k with | .inl _=>.inl s | .inr k=>.inr k) ?_ ?_
 ·intro k e' hk
  cases k with
  | inl _=>exact hL.trans hk
  | inr k=>exact hk
 ·intro k k' e1 e2 h1 h2 hne
  cases k with
  | inl u=>cases k' with
   | inl u'=>exact absurd rfl hne
   | inr k'=>intro he;cases he
  | inr k=>cases k' with
   | inl u'=>intro he;cases he
   | inr k'=>intro he;exact hne (by rw [Sum.inr.inj he])
theorem JW {fn:Func} {s:Nat} (hr:fn.results = #[.tmp s]) (hs:Λ s=some q) (hAt:At B h0 Γ Λ F n a w):Gx P fn B h0 F q aO.pX .ret a w:=by
 obtain ⟨h,L,hl,hst,yQ,qY,_,hdf⟩:=hAt
 obtain ⟨e,hL,hq⟩:=yQ s q hs
 refine fun hB=>.inl ⟨hdf.trans hB,a.gt s,?_,a.gt s,h,e,rfl,hl,hst.one s hL,trivial,hq⟩
 have hv:(resV a.tmps (.tmp s)).run P w = .ok (a.gt s) w:=rfl
 rw [wH];simp [hr,hv]
theorem yU {fn:Func} {s:Nat} {rv:ResultVar} {g:aO} (hr:fn.results = #[.tmp s,rv]) (hs:Λ s=some q) (h1:J8 P Γ Λ rv g) (hAt:At B h0 Γ Λ F n a w):Gx P fn B h0 F (yw q) (BJ aO.pX g) .ret a w:=by
 obtain ⟨h,L,hl,hst,yQ,qY,_,hdf⟩:=hAt
 obtain ⟨v,hv,hp⟩:=h1 _ B F h a w L hst yQ qY
 obtain ⟨e,hL,hq⟩:=yQ s q hs
 refine fun hB=>.inl ⟨hdf.trans hB,.tuple #[a.gt s,v],?_,_,h,e,rfl,hl,hst.one s hL,⟨_,_,rfl,trivial,hp⟩,_,_,rfl,hq⟩
 have hv0:(resV a.tmps (.tmp s)).run P w = .ok (a.gt s) w:=rfl
 rw [wH];simp [hr,hv,hv0]
end
theorem zC {d:Nat} {f:FuncId} {fn:Func} {args:List aO} {q:gK} {post:aO} {xs:Array Operand} {ts:Array TypeId} (hc:IJ P f args q post) (hf:P.funcs[f]? = some fn) (hb:qm fn=true) (hd:mM (post :: args)=true) (hdst:o.dst=some d)
    (ho:o.op = .call { callee:=.value (.func f),args:=xs,argTypes:=ts }) (hargs:qA N args xs.toList):dw P o N [] post [(d,some q)]:=by
  intro κ B F L h a w hst hn _ hdn next Q hnext _
  simp only [qm,Bool.and_eq_true,Bool.not_eq_true'] at hb
  have hbody:fn.body≠none:=by
    intro hx;rw [hx] at hb;cases hb.1
  have hname:fn.name ≠ "runtime.NumGoroutine":=by simpa using hb.2
  have hdp:=jI hd
  obtain ⟨hlen,hall⟩:=hargs.spec
  unfold Oper.oK
  have:(execOp a.eval o).run P w = .ok (.enter f (xs.toList.map a.eval).toArray) w:=by
    have e:(xs.toList.map a.eval).toArray=xs.map a.eval:=by apply Array.ext';simp
    rw [e]
    simp [execOp,ho,resolve,Act.eval,Deferred.ofValue,invoke,callFunc,hf,hname,hbody]
  rw [this,zu]
  refine (hc _ B (Sum.elim L F) h w (xs.toList.map a.eval) hst (by rw [List.length_map];exact hlen) ?_).mono ?_
  · intro i g v hg hv
    rw [List.getElem?_map] at hv
    cases hx:xs.toList[i]? with
    | none=>rw [hx] at hv;cases hv
    | some x =>
      rw [hx] at hv;cases hv
      have:=hall i g x hg hx h a hn
      unfold aO.dv at this
      rw [hdp g (List.mem_cons_of_mem _ (List.mem_of_getElem? hg))] at this
      exact this
  · rintro e w' ⟨v,h',x,rfl,hl,hst',hp,hq⟩
    refine hnext v h' w' (set1 L d x) hl ?_ ?_ ?_
    · unfold aO.dv
      rw [hdp post List.mem_cons_self]
      exact hp
    · refine hst'.Dc (fun k => match k with | .inl k => if k = d then .inl () else .inr (.inl k) | .inr k => .inr (.inr k)) ?_ ?_
      · intro k e hk
        cases k with
        | inr k=>exact hk
        | inl k =>
          by_cases hkd:k=d
          · subst hkd;simp [set1] at hk;simp [hk]
          · simp [set1,hkd] at hk;simp [hkd,hk]
      · intro k k' e1 e2 h1 h2 hne
        cases k with
        | inr k=>cases k' with
          | inr k'=>intro he;exact hne (by rw [Sum.inr.inj (Sum.inr.inj he)])
          | inl k'=>intro he;simp only [] at he;split at he <;> cases he
        | inl k=>cases k' with
          | inr k'=>intro he;simp only [] at he;split at he <;> cases he
          | inl k' =>
            have hne':k≠k':=fun x=>hne (by rw [x])
            simp only []
            intro he
            split at he <;> split at he
            · rename_i h3 h4;exact hne' (h3.trans h4.symm)
            · cases he
            · cases he
            · exact hne' (Sum.inl.inj (Sum.inr.inj he))
    · rw [hdst]
      exact lH (by rw [fO (hdn d hdst)];exact hq)
theorem uU {q:gK} {s d:Nat} (hsd:Nat.beq s d=false) (hd:o.dst=some d) (ho:o.op = .extract (.tmp s) 0):dw P o N [(s,yw q)] aO.pX [(s,none),(d,some q)]:=by
 intro κ B F L h a w hst hn hk hdn next Q hnext _
 obtain ⟨e,hL,x,y,hv,hq⟩:=hk.1
 have hne:s≠d:=fun x=>by rw [kL.2 x] at hsd;cases hsd
 have hv':a.eval (.tmp s) = .tuple #[x,y]:=hv
 unfold Oper.oK
 have:(execOp a.eval o).run P w = .ok (.value x) w:=by simp [execOp,ho,hv',Instr.extract]
 rw [this]
 refine hnext _ h w _ (lD.refl h) trivial (hst.mv s d) ?_
 rw [hd]
 exact Ij hne hL (by rw [fO (hdn d hd)];exact hq)
end Go.KB
namespace Go.KB
variable {P:Program} {o:Oper} {N:List (Nat×aO)} {f:aO} {α β:Type}
structure Dt where
 b:Nat
 cap:Nat
 pre:List Value
 post:List Value
def wJ (K:Dt) (E:TypeId) (r:Rep α) (xs:List α):gQ where
 claims:=[(K.b,0)]
 ok:=fun h m=>∃ cs,m K.b=some (.cells (K.pre ++ cs ++ K.post).toArray E (0,0))∧oC r h cs xs
 mono:=by rintro h h' m hl ⟨cs,e,k⟩;exact ⟨cs,e,k.mono hl⟩
 frame:=fun hm ⟨cs,e,k⟩=>⟨cs,by rw [hm (K.b,0) (by simp)];exact e,k⟩
def jw (K:Option Dt) (E:TypeId) (r:Rep α) (xs:List α):gK:=fun v e =>
 match K with
 | none=>(∃ base,v = .slice base 0 0)∧xs=[]∧e=kM
 | some K=>v = .slice (some ⟨K.b,K.pre.length,none⟩) xs.length K.cap∧xs.length≤K.cap∧e=wJ K E r xs
def YW (s off:Nat):aO:=⟨some s,fun _ d v=>∃ b p len cap,d = .slice (some ⟨b,p,none⟩) len cap∧v = .pointer (some ⟨b,p+off,none⟩),fun _ x=>x⟩
theorem Sm {K:Option Dt} {T E E':TypeId} {r:Rep α} {s:Nat} {x:Operand} {xs:List α} (hT:P.underlying T=some (.slice E')) (ho:o.op = .call { callee:=.builtin .len,args:=#[x],argTypes:=#[T] }) (hx:bJ N x (Ls s)) :
  dw P o N [(s,jw K E r xs)] (fV (Rep.int .i64) (xs.length:Int)) []:=by
 intro κ B F L h a w hst hn hk _ next Q hnext _
 obtain ⟨e,_,hq⟩:=hk.1
 have hx':a.eval x=a.gt s:=hx h a hn
 have:(execOp a.eval o).run P w = .ok (.value (.int .i64 (xs.length:Int))) w:=by
  cases K with
  | none =>
   obtain ⟨⟨base,hv⟩,rfl,_⟩:=hq
   have hv':a.gt s=_:=hv
   simp [execOp,ho,resolve,invoke,builtin,Builtin.len_,hx',hv',run_underlying hT,goInt]
  | some K =>
   obtain ⟨hv,_,_⟩:=hq
   have hv':a.gt s=_:=hv
   simp [execOp,ho,resolve,invoke,builtin,Builtin.len_,hx',hv',run_underlying hT,goInt]
 unfold Oper.oK
 rw [this]
 exact hnext _ h w L (lD.refl h) (eG.2 rfl) hst lU
theorem iU {K:Option Dt} {T E:TypeId} {r:Rep α} {s:Nat} {k:IntKind} {x i:Operand} {xs:List α} {n:Int} {y:α} (hq:idx xs n=some y) (t:iV P E r) (hT:P.underlying T=some (.slice E)) (ho:o.op = .indexAddr T x i) (hx:bJ N x (Ls s)) (hi:bJ N i (fV (Rep.int k) n)) :
  dw P o N [(s,jw K E r xs)] (YW s (n.toNat * r.sz)) []:=by
 obtain ⟨h0,h1,_⟩:=cZ hq
 intro κ B F L h a w hst hn hk _ next Q hnext _
 obtain ⟨e,_,hq⟩:=hk.1
 cases K with
 | none=>obtain ⟨_,rfl,_⟩:=hq;exact absurd h1 (Nat.not_lt_zero _)
 | some K =>
  obtain ⟨hv,_,_⟩:=hq
  have hx':a.eval x=a.gt s:=hx h a hn
  have hv':a.gt s=_:=hv
  unfold Oper.oK
  have hb:0≤n∧n<xs.length:=by omega
  have:(execOp a.eval o).run P w = .ok (.value (.pointer (some ⟨K.b,K.pre.length+n.toNat * r.sz,none⟩))) w:=by
   simp [execOp,ho,hx',hv',eG.1 (hi h a hn),Instr.indexAt,asIntOf,run_underlying hT,hb,t.size,Addr.add_mid]
  rw [this]
  exact hnext _ h w L (lD.refl h) ⟨K.b,_,_,K.cap,hv',rfl⟩ hst lU
theorem Ky {κ:Type} {B:Base} {h:H} {L:Nat→Option gQ} {F:κ→Option gQ} {w:World} (hst:St B h (Sum.elim L F) w) {s:Nat} {K:Dt} {E:TypeId} {r:Rep α} {xs:List α}
  (hk:L s=some (wJ K E r xs)):∃ cs,w.heap[K.b]? = some (.cells (K.pre ++ cs ++ K.post).toArray E (0,0))∧oC r h cs xs:=(hst.own (k:=Sum.inl s) hk).2
theorem ji {K:Option Dt} {T E:TypeId} {r:Rep α} {q:Rep β} {s off m:Nat} {x:Operand} {xs:List α} {y:α} {get:α→β} {set:α→β→α} (hy:xs[m]? = some y) (l:Lens r q off get set) (t:iV P T q) (ho:o.op = .load T x) (hx:bJ N x (YW s (m * r.sz+off))) :
  dw P o N [(s,jw K E r xs)] (fV q (get y)) []:=by
 intro κ B F L h a w hst hn hk _ next Q hnext _
 obtain ⟨b,pp,len,cap,hd,hv⟩:=hx h a hn
 have hd':a.gt s=_:=hd
 obtain ⟨e,hL,hq⟩:=hk.1
 cases K with
 | none=>obtain ⟨_,rfl,_⟩:=hq;simp at hy
 | some K =>
  obtain ⟨hv',hc,rfl⟩:=hq
  rw [hd'] at hv';cases hv'
  obtain ⟨cs,hb,hr⟩:=Ky hst hL
  obtain ⟨p,c,q',rfl,hp,hcr,_⟩:=hr.get hy
  obtain ⟨p2,c2,q2,rfl,hp2,hc2,_⟩:=l h c y hcr
  unfold Oper.oK
  have hrun:=rW (b:=K.b) (off:=K.pre.length+(m * r.sz+off)) (w:=w) t (q.len hc2) (fun j v hj=>by
   rw [uQ _ _ _ _ _ _ hb]
   have hjl:=(List.getElem?_eq_some_iff.1 hj).1
   simp only [List.getElem?_toArray]
   rw [show K.pre ++ (p ++ (p2 ++ c2 ++ q2) ++ q') ++ K.post=(K.pre ++ p ++ p2) ++ (c2 ++ (q2 ++ q' ++ K.post)) by simp,List.getElem?_append_right (by simp;omega)]
   rw [show K.pre.length+(m * r.sz+off)+j - (K.pre ++ p ++ p2).length=j by simp;omega,List.getElem?_append_left hjl];exact hj)
  have:(execOp a.eval o).run P w = .ok (.value (pack q.agg c2)) w:=by simp [execOp,ho,hv,hrun]
  rw [this]
  exact hnext _ h w L (lD.refl h) ⟨c2,hc2,rfl⟩ hst lU
theorem og {K:Option Dt} {T E:TypeId} {r:Rep α} {q:Rep β} {s off m:Nat} {x v:Operand} {xs:List α} {y:α} {z:β} {get:α→β} {set:α→β→α} {xs':List α} (hy:xs[m]? = some y) (l:Lens r q off get set) (t:iV P T q) (hd:o.dst=none) (ho:o.op = .store T x v)
    (hx:bJ N x (YW s (m * r.sz+off))) (hv:bJ N v (fV q z)) (hs':xs'=xs.set m (set y z)):dw P o N [(s,jw K E r xs)] aO.pX [(s,some (jw K E r xs'))]:=by
  subst hs'
  intro κ B F L h a w hst hn hk _ next Q hnext _
  obtain ⟨b,pp,len,cap,hdv,hxv⟩:=hx h a hn
  have hd':a.gt s=_:=hdv
  obtain ⟨e,hL,hq⟩:=hk.1
  cases K with
  | none=>obtain ⟨_,rfl,_⟩:=hq;simp at hy
  | some K =>
    obtain ⟨hv',hc,rfl⟩:=hq
    rw [hd'] at hv';cases hv'
    obtain ⟨cs,hb,hr⟩:=Ky hst hL
    obtain ⟨c',hc',hvv⟩:=hv h a hn
    obtain ⟨p,c,q',rfl,hp,hcr,hset⟩:=hr.get hy
    obtain ⟨p2,c2,q2,rfl,hp2,hc2,UK⟩:=l h c y hcr
    have hsh:K.pre ++ (p ++ (p2 ++ c2 ++ q2) ++ q') ++ K.post=(K.pre ++ p ++ p2) ++ c2 ++ (q2 ++ q' ++ K.post):=by simp
    have hsh':(K.pre ++ p ++ p2) ++ c' ++ (q2 ++ q' ++ K.post)=K.pre ++ (p ++ (p2 ++ c' ++ q2) ++ q') ++ K.post:=by simp
    have hb0:=hb
    rw [hsh] at hb
    have hrun:=ni t hc' hb (q.len hc2)
    unfold Oper.oK
    have hpl:(K.pre ++ p ++ p2).length=K.pre.length+(m * r.sz+off):=by simp;omega
    have:(execOp a.eval o).run P w = .ok .skip (w.setRow K.b ((K.pre ++ p ++ p2) ++ c' ++ (q2 ++ q' ++ K.post)).toArray):=by
      simp only [execOp,ho,hxv,hvv,← hpl,Sem.run_bind,hrun,Result.andThen_ok,Sem.run_pure]
    rw [this,hsh']
    obtain ⟨hcl,_⟩:=hst.own (k:=Sum.inl s) hL
    have hno:=(hcl (K.b,0) (by simp [wJ])).2.2
    have hrel:=hset h _ _ (lD.refl h) (UK h c' z (lD.refl h) hc')
    have hmem:=sW w K.b (K.pre ++ (p ++ (p2 ++ c2 ++ q2) ++ q') ++ K.post).toArray (K.pre ++ (p ++ (p2 ++ c' ++ q2) ++ q') ++ K.post).toArray E hb0
    refine hnext undef h _ (set1 L s (wJ K E r (xs.set m (set y z)))) (lD.refl h) trivial ?_ ?_
    · refine hst.write (Sum.inl s) (e := wJ K E r xs) hL (b := K.b) (lo := 0) (by simp [wJ]) hmem (fun i hi => setRow_other w K.b i _ hi) (by simp [World.setRow]) rfl rfl rfl ?_ qw ?_
      · intro o' u hh;rw [hno o' (Nat.zero_le _)] at hh;cases hh
      · intro e' he
        rw [qx he]
        exact ⟨fun c hc=>hc,_,hmem,hrel⟩
    · rw [hd]
      exact lH ⟨by rw [List.length_set];exact hd',by rw [List.length_set];exact hc,rfl⟩

def fSub (s sz lo len:Nat):aO:=⟨some s,fun _ d v=>(∃ base,d = .slice base 0 0∧v = .slice base 0 0∧lo=0∧len=0) ∨
 ∃ b p L cap,d = .slice (some ⟨b,p,none⟩) L cap∧lo+len≤L∧v = .slice (some ⟨b,if cap=lo then p else p+lo * sz,none⟩) len (cap - lo),fun _ x=>x⟩
theorem LW {T E:TypeId} {r:Rep α} {s:Nat} {x:Operand} {lo hi:Option Operand} {xs ys:List α} {l m:Int} (hq:MB xs l m=some ys) (t:iV P E r) (hT:P.underlying T=some (.slice E)) (ho:o.op = .slice T x lo hi none) (hx:bJ N x (Ls s))
  (hl:IW N 0 lo l) (hm:IW N xs.length hi m):dw P o N [(s,bU E r xs)] (fSub s r.sz l.toNat (m.toNat - l.toNat)) []:=by
 obtain ⟨h0,h1,h2,rfl⟩:=OY hq
 intro κ B F L h a w hst hn hk _ next Q hnext _
 obtain ⟨e,_,hq⟩:=hk.1
 have hx':a.eval x=a.gt s:=hx h a hn
 unfold Oper.oK
 rcases hq with ⟨⟨base,hv⟩,rfl,_⟩ | ⟨b,cap,hv,hc,_⟩
 ·have hv':a.gt s=_:=hv
  have hrun:=Ik (w:=w) (base:=base) (cap:=0) hT t hn hl hm h0 h1 h2 (Nat.le_refl _)
  have hm0:m.toNat=0:=by simp at h2;omega
  have hl0:l.toNat=0:=by omega
  rw [hm0,hl0] at hrun
  have:(execOp a.eval o).run P w = .ok (.value (.slice base 0 0)) w:=by
   simp only [execOp,ho,hx',hv',Option.map_none,Sem.run_bind] at hrun ⊢
   simp only [List.length_nil] at hrun
   rw [hrun];simp
  rw [this]
  exact hnext _ h w L (lD.refl h) (.inl ⟨base,hv',rfl,hl0,by omega⟩) hst lU
 ·have hv':a.gt s=_:=hv
  have hrun:=Ik (w:=w) (base:=some ⟨b,0,none⟩) hT t hn hl hm h0 h1 h2 hc
  have:(execOp a.eval o).run P w = .ok (.value (.slice (some ⟨b,if cap=l.toNat then 0 else 0+l.toNat * r.sz,none⟩) (m.toNat - l.toNat) (cap - l.toNat))) w:=by
   simp only [execOp,ho,hx',hv',Option.map_none,Sem.run_bind] at hrun ⊢
   rw [hrun]
   simp only [Result.andThen_ok,Sem.run_pure]
   congr 3
   split
   ·rfl
   ·simp [Addr.add_mid]
  rw [this]
  exact hnext _ h w L (lD.refl h) (.inr ⟨b,0,_,cap,hv',by omega,rfl⟩) hst lU
theorem St.swap {κ:Type} {B:Base} {h:H} {L:Nat→Option gQ} {F:κ→Option gQ} {w:World} (hst:St B h (Sum.elim L F) w) {s:Nat} {e e':gQ} (hL:L s=some e)
  (hcl:∀ c ∈ e'.claims,∃ c0 ∈ e.claims,c0.1=c.1∧c0.2≤c.2) (hok:e'.ok h (World.mem w)):St B h (Sum.elim (set1 L s e') F) w:=by
 obtain ⟨hcl0,_⟩:=hst.own (k:=Sum.inl s) hL
 refine hst.step (Sum.inl s) (fun _=>False) (fun _ hb=>hb.elim) (Nat.le_refl _) rfl rfl rfl (fun _ _ _=>rfl) (lD.refl h) (fun _ _ _ _=>rfl) ?_ qw ?_
 ·rintro b o' v (hb | hb) hv
  ·exact hb.elim
  ·rw [hst.fresh hb] at hv;cases hv
 ·intro e1 he
  rw [qx he]
  refine ⟨fun c hc=>?_,hok⟩
  obtain ⟨c0,hc0,h1,h2⟩:=hcl c hc
  obtain ⟨_,h3,h4⟩:=hcl0 c0 hc0
  exact ⟨.inr ⟨_,hL,c0,hc0,h1⟩,by omega,fun o ho=>by rw [← h1];exact h4 o (by omega)⟩
theorem zq {L:Nat→Option gQ} {s:Nat} {e:gQ} (hL:L s=some e):set1 L s e=L:=by
 funext k;unfold set1;split
 ·rename_i hk;rw [hk,hL]
 ·rfl
theorem Ea {L:Nat→Option gQ} {s:Nat} {e e':gQ}:set1 (set1 L s e) s e'=set1 L s e':=by
 funext k;unfold set1;split <;> rfl
theorem sZ {L:Nat→Option gQ} {s:Nat} {e:gQ}:set1 L s e s=some e:=by simp [set1]
def qR (s:Nat) (fx:aO) (q0 q0':gK) {ι:Type} (q q':ι→gK):Prop :=
 ∀ (κ:Type) (B:Base) (F:κ→Option gQ) (L:Nat→Option gQ) (h:H) (w:World) (d v:Value) (e:gQ),St B h (Sum.elim L F) w→L s=some e→q0 d e→fx.p h d v →
  ∃ k x,q k v x∧St B h (Sum.elim (set1 L s x) F) w∧∀ (h':H) (w':World) (x':gQ),lD h h'→q' k v x'→St B h' (Sum.elim (set1 L s x') F) w'→∃ e',q0' d e'∧St B h' (Sum.elim (set1 L s e') F) w'
theorem qR.cp {s:Nat} {q0 q0':gK}:qR s (Ls s) q0 q0' (fun _:Unit=>q0) (fun _=>q0'):=by
 intro κ B F L h w d v e hst hL hq hv
 have hv:v=d:=hv
 subst hv
 exact ⟨(),e,hq,by rw [zq hL];exact hst,fun h' w' x' hle' hq' hst'=>⟨x',hq',hst'⟩⟩
theorem qR.arr {s:Nat} {E:TypeId} {r:Rep α} {xs xs':List α}:qR s (Ls s) (bU E r xs) (bU E r xs') (fun K:Option Dt=>jw K E r xs) (fun K=>jw K E r xs'):=by
  intro κ B F L h w d v e hst hL hq hv
  have hv:v=d:=hv
  subst hv
  rcases hq with ⟨hv,rfl,rfl⟩ | ⟨b,cap,hv,hc,rfl⟩
  · refine ⟨none, kM, ⟨hv, rfl, rfl⟩, by rw [zq hL]; exact hst, fun h' w' x' hle' hq' hst' => ⟨x', ?_, hst'⟩⟩
    obtain ⟨h1,h2,h3⟩:=hq'
    exact .inl ⟨h1,h2,h3⟩
  · obtain ⟨cs,rest,hb,hr,hlen⟩:=Ia hst hL
    refine ⟨some ⟨b,cap,[],rest⟩,wJ ⟨b,cap,[],rest⟩ E r xs,⟨by simpa using hv,hc,rfl⟩,
      hst.swap hL (fun c hc=>⟨c,by simpa [wJ,jJ] using hc,rfl,Nat.le_refl _⟩) ⟨cs,by simpa [World.mem] using hb,hr⟩,fun h' w' x' hle' hq' hst'=>?_⟩
    obtain ⟨h1,h2,rfl⟩:=hq'
    obtain ⟨cs',hb',hr'⟩:=Ky hst' sZ
    have hl:xs'.length=xs.length:=by rw [hv] at h1;injection h1 with _ h3 _;exact h3.symm
    refine ⟨jJ b E r xs' cap,.inr ⟨b,cap,by rw [hl];exact hv,by omega,rfl⟩,?_⟩
    have:=hst'.swap (e':=jJ b E r xs' cap) sZ (fun c hc=>⟨c,by simpa [wJ,jJ] using hc,rfl,Nat.le_refl _⟩) ⟨cs',rest,by simpa [World.mem] using hb',hr',by
      rw [← hlen,List.length_append,List.length_append,hr'.len,hr.len,hl]⟩
    rwa [Ea] at this
theorem oC.split {r:Rep α} {h:H}:∀ {xs:List α} {cs:List Value} (n:Nat),oC r h cs xs→n≤xs.length→∃ c d,cs=c ++ d∧oC r h c (xs.take n)∧oC r h d (xs.drop n):=by
 intro xs
 induction xs with
 | nil=>intro cs n k hn;exact ⟨[],cs,rfl,by simp [oC],by simpa using k⟩
 | cons x xs ih =>
  intro cs n k hn
  cases n with
  | zero=>exact ⟨[],cs,rfl,rfl,k⟩
  | succ n =>
   obtain ⟨c,d,rfl,hc,hd⟩:=k
   obtain ⟨c',d',rfl,hc',hd'⟩:=ih n hd (by simpa using hn)
   exact ⟨c ++ c',d',by simp,⟨c,c',rfl,hc,hc'⟩,hd'⟩
theorem qR.Yn {s lo len:Nat} {E:TypeId} {r:Rep α} {xs ys':List α}:qR s (fSub s r.sz lo len) (bU E r xs) (bU E r (xs.take lo ++ ys' ++ xs.drop (lo+len))) (fun K:Option Dt=>jw K E r ((xs.drop lo).take len)) (fun K=>jw K E r ys'):=by
  intro κ B F L h w d v e hst hL hq hv
  rcases hv with ⟨base,hd,hv,hlo0,hlen0⟩ | ⟨b,p,L0,cap,hd,hle,hv⟩
  · have hx0:xs=[]:=by
      rcases hq with ⟨_,rfl,_⟩ | ⟨b,cap,hd',_,_⟩
      · rfl
      · rw [hd] at hd';injection hd' with _ h3 _;exact List.eq_nil_of_length_eq_zero h3.symm
    subst hx0
    refine ⟨none,kM,⟨⟨base,hv⟩,by simp,rfl⟩,hst.swap hL (fun c hc=>by cases hc) trivial,fun h' w' x' hle' hq' hst'=>⟨x',?_,hst'⟩⟩
    obtain ⟨h1,rfl,h3⟩:=hq'
    exact .inl ⟨⟨base,hd⟩,by simp,h3⟩
  · rcases hq with ⟨⟨base,hd'⟩,rfl,rfl⟩ | ⟨b',cap',hd',hc,rfl⟩
    · rw [hd] at hd';injection hd' with h5 h6 h7
      subst h5;subst h6;subst h7
      have hlo0:lo=0:=by omega
      have hlen0:len=0:=by omega
      subst hlo0;subst hlen0
      refine ⟨none,kM,⟨⟨_,hv⟩,by simp,rfl⟩,by rw [zq hL];exact hst,fun h' w' x' hle' hq' hst'=>⟨x',?_,hst'⟩⟩
      obtain ⟨h1,rfl,h3⟩:=hq'
      exact .inl ⟨⟨_,hd⟩,by simp,h3⟩
    rw [hd] at hd';cases hd'
    obtain ⟨cs,rest,hb,hr,hlen⟩:=Ia hst hL
    have hyl:((xs.drop lo).take len).length=len:=by rw [List.length_take,List.length_drop];omega
    by_cases hcl:cap=lo
    · have hl0 : len = 0 := by omega
      subst hl0
      rw [if_pos hcl] at hv
      refine ⟨some ⟨b,cap - lo,[],cs ++ rest⟩,wJ ⟨b,cap - lo,[],cs ++ rest⟩ E r ((xs.drop lo).take 0),⟨by simpa using hv,by simp,rfl⟩,
        hst.swap hL (fun c hc=>⟨c,by simpa [wJ,jJ] using hc,rfl,Nat.le_refl _⟩) ⟨[],by simpa [World.mem] using hb,by simp [oC]⟩,fun h' w' x' hle' hq' hst'=>?_⟩
      obtain ⟨h1,h2,rfl⟩:=hq'
      have hy0:ys'=[]:=by
        rw [hv] at h1;injection h1 with _ h3 _;exact List.eq_nil_of_length_eq_zero h3.symm
      subst hy0
      obtain ⟨cs',hb',hr'⟩:=Ky hst' sZ
      have hcs':cs'=[]:=hr'
      subst hcs'
      rw [Nat.add_zero,List.append_nil,List.take_append_drop]
      refine ⟨jJ b E r xs cap,.inr ⟨b,cap,hd,hc,rfl⟩,?_⟩
      have:=hst'.swap (e':=jJ b E r xs cap) sZ (fun c hc=>⟨c,by simpa [wJ,jJ] using hc,rfl,Nat.le_refl _⟩) ⟨cs,rest,by simpa [World.mem] using hb',hr.mono hle',hlen⟩
      rwa [Ea] at this
    · rw [if_neg hcl,Nat.zero_add] at hv
      obtain ⟨c1,cs2,rfl,hr1,hr2⟩:=hr.split lo (by omega)
      obtain ⟨c2,c3,rfl,hr2,hr3⟩:=hr2.split len (by rw [List.length_drop];omega)
      have hl1:c1.length=lo * r.sz:=by rw [hr1.len,List.length_take];congr 1;omega
      refine ⟨some ⟨b,cap - lo,c1,c3 ++ rest⟩,wJ ⟨b,cap - lo,c1,c3 ++ rest⟩ E r ((xs.drop lo).take len),⟨by rw [hyl];simp only [hl1];exact hv,by rw [hyl];simp only [];omega,rfl⟩,
        hst.swap hL (fun c hc=>⟨c,by simpa [wJ,jJ] using hc,rfl,Nat.le_refl _⟩) ⟨c2,by simpa [World.mem] using hb,hr2⟩,fun h' w' x' hle' hq' hst'=>?_⟩
      obtain ⟨h1,h2,rfl⟩:=hq'
      obtain ⟨cs',hb',hr'⟩:=Ky hst' sZ
      have hl:ys'.length=len:=by rw [hv] at h1;injection h1 with _ h3 _;exact h3.symm
      have htot:(xs.take lo ++ ys' ++ xs.drop (lo+len)).length=xs.length:=by
        rw [List.length_append,List.length_append,List.length_take,List.length_drop];omega
      rw [List.drop_drop] at hr3
      have hrel:=((hr1.mono hle').append hr').append (hr3.mono hle')
      refine ⟨jJ b E r (xs.take lo ++ ys' ++ xs.drop (lo+len)) cap,.inr ⟨b,cap,by rw [htot];exact hd,by rw [htot];exact hc,rfl⟩,?_⟩
      have:=hst'.swap (e':=jJ b E r (xs.take lo ++ ys' ++ xs.drop (lo+len)) cap) sZ (fun c hc=>⟨c,by simpa [wJ,jJ] using hc,rfl,Nat.le_refl _⟩) ⟨(c1 ++ cs') ++ c3,rest,by simpa [World.mem] using hb',hrel,by
        rw [← hlen]
        have:=hr'.len;have:=hr2.len
        rw [hyl] at this
        simp only [List.length_append]
        rw [hr'.len,hl,hr2.len,hyl];omega⟩
      rwa [Ea] at this

def CW (P:Program) (f:FuncId) (args:List aO) (i:Nat) (q q':gK) (post:aO):Prop :=
 ∀ (κ:Type) (B:Base) (L:κ→Option gQ) (h:H) (w:World) (vs:List Value) (x:gQ) (v:Value),St B h (Sum.elim (fun _:Unit=>some x) L) w→args.length=vs.length→vs[i]? = some v→q v x →
  (∀ (j:Nat) (g:aO) (u:Value),args[j]? = some g→vs[j]? = some u→g.p h undef u) →
  Calls P f vs.toArray w (fun e w'=>∃ u h' x',e = .returned u∧lD h h'∧St B h' (Sum.elim (fun _:Unit=>some x') L) w'∧post.p h' undef u∧q' v x')
def Kz (P:Program) (fn:Func) {κ:Type} (B:Base) (h0:H) (F:κ→Option gQ) (v:Value) (q':gK) (post:aO):Exit→Act→World→Prop :=
 fun e a w=>B.df=[]→IQ P fn (fun e w'=>∃ u h' x',e = .returned u∧lD h0 h'∧St B h' (Sum.elim (fun _:Unit=>some x') F) w'∧post.p h' undef u∧q' v x') e a w
theorem St.enter {κ:Type} {B:Base} {h:H} {F:κ→Option gQ} {w:World} {x:gQ} (i:Nat) (hst:St B h (Sum.elim (fun _:Unit=>some x) F) w):St B h (Sum.elim (fun k=>if k=i then some x else none) F) w:=by
 refine hst.Dc (fun k=>match k with | .inl _=>.inl () | .inr k=>.inr k) ?_ ?_
 ·intro k e hk
  cases k with
  | inl k =>
   simp only [Sum.elim_inl] at hk
   split at hk
   ·exact hk
   ·cases hk
  | inr k=>exact hk
 ·intro k k' e e' hk hk' hne
  cases k with
  | inl k=>cases k' with
   | inl k' =>
    simp only [Sum.elim_inl] at hk hk'
    split at hk <;> split at hk'
    ·rename_i h1 h2;exact absurd (by rw [h1,h2]) hne
    ·cases hk'
    ·cases hk
    ·cases hk
   | inr k'=>intro he;cases he
  | inr k=>cases k' with
   | inl k'=>intro he;cases he
   | inr k'=>intro he;exact hne (by rw [Sum.inr.inj he])
theorem xK {n:Nat} {f:FuncId} {fn:Func} {c:Code} {args:List aO} {i:Nat} {q q':gK} {post:aO} (hf:P.funcs[f]? = some fn) (hb:fn.body=some c) (hn:fn.ntmps=n) (rV:(Nat.ble args.length n&&mM args)=true)
  (hwp:∀ (κ:Type) (B:Base) (h0:H) (F:κ→Option gQ) (a:Act) (w:World) (vM:Value),At B h0 (Qy ((i,xE vM) :: Ci 0 args)) (NF [(i,q)]) F n a w→c.oK none P (Kz P fn B h0 F vM q' post) a w):CW P f args i q q' post:=by
 intro κ B L h w vs x v hst hl YS hq hargs
 rw [Bool.and_eq_true,Nat.ble_eq] at rV
 obtain ⟨hlen,hdp⟩:=rV
 have yI:=jI hdp
 have hget:∀ (j:Nat) u,vs[j]? = some u→Act.gt { tmps:=vs.toArray ++ Array.replicate (fn.ntmps - vs.toArray.size) undef,defers:=[] } j=u:=by
  intro j u hu
  have hj:=(List.getElem?_eq_some_iff.1 hu).1
  simp only [Act.gt,Array.getD_eq_getD_getElem?]
  rw [Array.getElem?_append_left (by simpa using hj)]
  simp [hu]
 refine xk rfl hf hb (hwp _ B.e h L _ w v ⟨h,_,lD.refl h,(hst.enter i).toE,?_,?_,?_,rfl⟩) (fun _ _ ⟨v,h',x,he,hl,hs,hp⟩=>⟨v,h',x,he,hl,hs.ofE,hp⟩)
 ·intro s q1 hs
  simp only [NF,lkO] at hs
  cases hk:Nat.beq i s with
  | true =>
   rw [hk] at hs;cases hs
   rw [kL] at hk;subst hk
   exact ⟨x,by simp,by rw [hget _ _ YS];exact hq⟩
  | false=>rw [hk] at hs;cases hs
 ·intro s
  show (bif Nat.beq i s then _ else L6 (Ci 0 args) s).at _ _ _
  cases hk:Nat.beq i s with
  | true =>
   rw [kL] at hk;subst hk
   exact hget _ _ YS
  | false =>
   rw [cond_false]
   rcases Bg args 0 s with h1 | ⟨j,g,h1,h2,h3⟩
   ·rw [h1];exact trivial
   ·rw [h3]
    have hj:=(List.getElem?_eq_some_iff.1 h1).1
    have hv:vs[j]? = some vs[j]:=List.getElem?_eq_getElem (by omega)
    have:=hargs j g _ h1 hv
    unfold aO.at aO.dv
    rw [yI g (List.mem_of_getElem? h1),h2,Nat.zero_add,hget _ _ hv]
    exact this
 ·simp;omega
section
variable {κ:Type} {B:Base} {h h0:H} {L:Nat→Option gQ} {Γ:Ctx} {Λ:Own} {F:κ→Option gQ} {n:Nat} {a:Act} {w:World} {q:gK} {i:Nat} {v:Value}
theorem At.own1 (hi:Γ i=xE v) (hs:Λ i=some q) (hAt:At B h0 Γ Λ F n a w):∃ h L x,lD h0 h∧St B h (Sum.elim L F) w∧L8 Λ L a∧Sat Γ h a∧a.defers=B.df∧St B h (Sum.elim (fun _:Unit=>some x) F) w∧q v x:=by
 obtain ⟨h,L,hl,hst,yQ,qY,_,hdf⟩:=hAt
 obtain ⟨e,hL,hq⟩:=yQ i q hs
 have:=qY i
 rw [hi] at this
 have hv:a.gt i=v:=this
 rw [hv] at hq
 exact ⟨h,L,e,hl,hst,yQ,qY,hdf,hst.one i hL,hq⟩
theorem FQ {fn:Func} (hr:fn.results = #[]) (hi:Γ i=xE v) (hs:Λ i=some q) (hAt:At B h0 Γ Λ F n a w):Kz P fn B h0 F v q Uc .ret a w:=by
 obtain ⟨h,L,x,hl,hst,yQ,qY,hdf,hst',hq⟩:=hAt.own1 hi hs
 exact fun hB=>.inl ⟨hdf.trans hB,.tuple #[],by simp [results,hr],_,h,x,rfl,hl,hst',rfl,hq⟩
theorem XL {fn:Func} {rv:ResultVar} {g:aO} (hr:fn.results = #[rv]) (hi:Γ i=xE v) (hs:Λ i=some q) (h1:J8 P Γ Λ rv g) (hAt:At B h0 Γ Λ F n a w):Kz P fn B h0 F v q g .ret a w:=by
 obtain ⟨h,L,x,hl,hst,yQ,qY,hdf,hst',hq⟩:=hAt.own1 hi hs
 obtain ⟨u,hu,hp⟩:=h1 _ B F h a w L hst yQ qY
 refine fun hB=>.inl ⟨hdf.trans hB,u,?_,u,h,x,rfl,hl,hst',hp,hq⟩
 rw [wH];simp [hr,hu]
end
theorem St.out {κ:Type} {B:Base} {h:H} {L:Nat→Option gQ} {F:κ→Option gQ} {w:World} {x:gQ} {s:Nat} (hst:St B h (Sum.elim (set1 L s x) F) w) :
  St B h (Sum.elim (fun _:Unit=>some x) (Sum.elim (fun k=>if k=s then none else L k) F)) w:=by
 refine hst.Dc (fun k=>match k with | .inl _=>.inl s | .inr (.inl k)=>.inl k | .inr (.inr k)=>.inr k) ?_ ?_
 ·intro k e hk
  cases k with
  | inl k=>simpa [set1] using hk
  | inr k=>cases k with
   | inl k =>
    simp only [Sum.elim_inr,Sum.elim_inl] at hk
    split at hk
    ·cases hk
    ·rename_i hne;simpa [set1,hne] using hk
   | inr k=>exact hk
 ·intro k k' e e' hk hk' hne
  have key:∀ (j:Nat) (e:gQ),(if j=s then none else L j)=some e→j≠s:=fun j e hj hjs=>by rw [if_pos hjs] at hj;cases hj
  cases k with
  | inl k=>cases k' with
   | inl k'=>exact absurd rfl hne
   | inr k'=>cases k' with
    | inl k'=>intro he;exact key _ _ hk' (Sum.inl.inj he).symm
    | inr k'=>intro he;cases he
  | inr k=>cases k with
   | inl k=>cases k' with
    | inl k'=>intro he;exact key _ _ hk (Sum.inl.inj he)
    | inr k'=>cases k' with
     | inl k'=>intro he;exact hne (by rw [Sum.inl.inj he])
     | inr k'=>intro he;cases he
   | inr k=>cases k' with
    | inl k'=>intro he;cases he
    | inr k'=>cases k' with
     | inl k'=>intro he;cases he
     | inr k'=>intro he;exact hne (by rw [Sum.inr.inj he])
theorem St.into {κ : Type} {B : Base} {h : H} {L : Nat → Option gQ} {F : κ → Option gQ} {w : World} {x : gQ} {s : Nat} (hst : St B h (Sum.elim (fun _ : Unit => some x) (Sum.elim (fun k => if k = s then none else L k) F)) w) :
    St B h (Sum.elim (set1 L s x) F) w:=by
  refine hst.Dc (fun k=>match k with | .inl k=>if k=s then .inl () else .inr (.inl k) | .inr k=>.inr (.inr k)) ?_ ?_
  · intro k e hk
    cases k with
    | inr k=>exact hk
    | inl k =>
      by_cases hks:k=s
      · subst hks;simp [set1] at hk;simp [hk]
      · simp [set1,hks] at hk;simp [hks,hk]
  · intro k k' e1 e2 h1 h2 hne
    cases k with
    | inr k=>cases k' with
      | inr k'=>intro he;exact hne (by rw [Sum.inr.inj (Sum.inr.inj he)])
      | inl k'=>intro he;simp only [] at he;split at he <;> cases he
    | inl k=>cases k' with
      | inr k'=>intro he;simp only [] at he;split at he <;> cases he
      | inl k' =>
        have hne':k≠k':=fun x=>hne (by rw [x])
        simp only []
        intro he
        split at he <;> split at he
        · rename_i h3 h4;exact hne' (h3.trans h4.symm)
        · cases he
        · cases he
        · exact hne' (Sum.inl.inj (Sum.inr.inj he))
theorem zY {x:Operand}:bJ N x aO.pX:=fun _ _ _=>trivial
theorem Ns {s:Nat}:bJ N (.tmp s) (Ls s):=fun _ _ _=>rfl
theorem Ov {s i:Nat} {ι:Type} {q0 q0':gK} {q q':ι→gK} {fx:aO} {f:FuncId} {fn:Func} {args:List aO} {post:aO} {xs:Array Operand} {ts:Array TypeId} {y:Operand}
  (hc:∀ k,CW P f args i (q k) (q' k) post) (hb:qR s fx q0 q0' q q') (hfx:fx.dep=some s) (hf:P.funcs[f]? = some fn) (hbd:qm fn=true) (hd:mM (post :: args)=true) (hds:UH o.dst s=true)
  (ho:o.op = .call { callee:=.value (.func f),args:=xs,argTypes:=ts }) (hy:xs.toList[i]? = some y) (hyx:bJ N y fx) (hargs:qA N args xs.toList):dw P o N [(s,q0)] post [(s,some q0')]:=by
 intro κ B F L h a w hst hn hk hdn next Q hnext _
 obtain ⟨e,hL,hq⟩:=hk.1
 have hL:L s=some e:=hL
 have hvx:=hyx h a hn
 unfold aO.dv at hvx
 rw [hfx] at hvx
 obtain ⟨k,x,hqx,hst1,hback⟩:=hb κ B F L h w (a.gt s) (a.eval y) e hst hL hq hvx
 simp only [qm,Bool.and_eq_true,Bool.not_eq_true'] at hbd
 have hbody:fn.body≠none:=by
  intro hx;rw [hx] at hbd;cases hbd.1
 have hname:fn.name ≠ "runtime.NumGoroutine":=by simpa using hbd.2
 have hdp:=jI hd
 obtain ⟨hlen,hall⟩:=hargs.spec
 unfold Oper.oK
 have:(execOp a.eval o).run P w = .ok (.enter f (xs.toList.map a.eval).toArray) w:=by
  have e:(xs.toList.map a.eval).toArray=xs.map a.eval:=by apply Array.ext';simp
  rw [e]
  simp [execOp,ho,resolve,Act.eval,Deferred.ofValue,invoke,callFunc,hf,hname,hbody]
 rw [this,zu]
 refine (hc k _ B _ h w (xs.toList.map a.eval) x (a.eval y) hst1.out (by rw [List.length_map];exact hlen) (by rw [List.getElem?_map,hy];rfl) hqx ?_).mono ?_
 ·intro j g v hg hv
  rw [List.getElem?_map] at hv
  cases hx:xs.toList[j]? with
  | none=>rw [hx] at hv;cases hv
  | some x =>
   rw [hx] at hv;cases hv
   have:=hall j g x hg hx h a hn
   unfold aO.dv at this
   rw [hdp g (List.mem_cons_of_mem _ (List.mem_of_getElem? hg))] at this
   exact this
 ·rintro e w' ⟨v,h',x',rfl,hl,hst',hp,hq'⟩
  obtain ⟨e',hq0',hst4⟩:=hback h' w' x' hl hq' hst'.into
  refine hnext v h' w' _ hl ?_ hst4 ?_
  ·unfold aO.dv
   rw [hdp post List.mem_cons_self]
   exact hp
  ·refine lH ?_
   rw [xU (by
    intro hd;unfold UH at hds;rw [hd] at hds
    simp [Nat.beq_refl] at hds)]
   exact hq0'
end Go.KB
