/- Variables with a field that is a row of one's own. Equality of structs; cuts with a capacity; deletion from a row. No condition. -/
import Derived.Test.YtdmioehoinnamaaGreatDoorKZc
namespace Go.KB
variable {P:Program} {o:Oper} {N:List (Nat×aQ)} {α β γ:Type}
def Rep.raw:Rep Value where
 sz:=1
 agg:=false
 rel:=fun _ cs v=>cs=[v]∧v.oneCell'=true
 zero:=Bh
 zc:=[Bh]
 one:=fun _=>rfl
 len:=fun e=>by rw [e.1];rfl
 flat:=fun e c hc=>by rw [e.1] at hc;simp at hc;rw [hc];exact e.2
 mono:=fun _ e=>e
 xX:=fun _=>⟨rfl,rfl⟩
theorem fU.raw {T:TypeId} {q:Rep β} (t:fU P T (Rep.slice q)):fU P T Rep.raw:=⟨t.size,t.agg,t.zero⟩
theorem Jo {h:H} {v x:Value}:Rep.raw.val h v x→v=x:=fun ⟨_,e,e'⟩=>by rw [e',e.1];rfl
section
variable {r:Rep α} {q:Rep β} {off:Nat} {get:α→List β} {set:α→List β→α}
variable {l:Lens r (Rep.slice q) off get set} {hz:r.zc[off]? = some Bh}
def bW (sv:Value) (E:TypeId) (r:Rep α) (xs:List α):eP:=fun _ e=>iC E r xs sv e
def LZ (sv:Value) (off:Nat):aQ:=⟨none,fun _ _ v=>∃ b len cap,sv = .slice (some ⟨b,0,none⟩) len cap∧v = .pointer (some ⟨b,off,none⟩),fun _ x=>x⟩
theorem LC.raw {x:Operand} {g:Nat} {sv:Value} {E:TypeId} {r:Rep α} {xs:List α} (hx:bF N x (fV Rep.raw sv)):LC N x g (bW sv E r xs) E r xs:=fun h a _ n k=>by rw [Jo (hx h a n)];exact k
theorem zi {T E E':TypeId} {r:Rep α} {g:Nat} {sv:Value} {x:Operand} {xs:List α} (hT:P.underlying T=some (.slice E')) (ho:o.op = .call { callee:=.builtin .len,args:=#[x],argTypes:=#[T] }) (hx:bF N x (fV Rep.raw sv)) :
  di P o N [(g,bW sv E r xs)] (fV (Rep.int .i64) (xs.length:Int)) []:=by
 intro κ B F L h a w hst hn hk _ next Q hnext _
 obtain ⟨e,_,hq⟩:=hk.1
 have hx':a.eval x=sv:=Jo (hx h a hn)
 have:(execOp a.eval o).run P w = .ok (.value (.int .i64 (xs.length:Int))) w:=by
  rcases hq with ⟨⟨base,hv⟩,rfl,_⟩ | ⟨b,cap,hv,_,_⟩
  ·simp [execOp,ho,resolve,invoke,builtin,Builtin.len_,hx',hv,run_underlying hT,goInt]
  ·simp [execOp,ho,resolve,invoke,builtin,Builtin.len_,hx',hv,run_underlying hT,goInt]
 unfold Oper.rJ
 rw [this]
 exact hnext _ h w L (nI.refl h) (eF.2 rfl) hst nJ
theorem uT {T E:TypeId} {r:Rep α} {g:Nat} {sv:Value} {k:IntKind} {x i:Operand} {xs:List α} {n:Int} {y:α} (hq:idx xs n=some y) (t:fU P E r) (hT:P.underlying T=some (.slice E)) (ho:o.op = .indexAddr T x i) (hx:bF N x (fV Rep.raw sv)) (hi:bF N i (fV (Rep.int k) n)) :
  di P o N [(g,bW sv E r xs)] (LZ sv (n.toNat * r.sz)) []:=by
 obtain ⟨h0,h1,_⟩:=iR hq
 intro κ B F L h a w hst hn hk _ next Q hnext _
 obtain ⟨e,_,⟨_,rfl,_⟩ | ⟨b,cap,hv,_,_⟩⟩:=hk.1
 ·exact absurd h1 (Nat.not_lt_zero _)
 have hx':a.eval x=sv:=Jo (hx h a hn)
 unfold Oper.rJ
 have hb:0≤n∧n<xs.length:=by omega
 have:(execOp a.eval o).run P w = .ok (.value (.pointer (some ⟨b,n.toNat * r.sz,none⟩))) w:=by
  simp [execOp,ho,hx',hv,eF.1 (hi h a hn),Instr.indexAt,asIntOf,run_underlying hT,hb,t.size,Addr.add_mid]
 rw [this]
 exact hnext _ h w L (nI.refl h) ⟨b,_,cap,hv,rfl⟩ hst nJ
theorem DK {T:TypeId} {i off off':Nat} {sv:Value} {x:Operand} (hf:bQ P T i off) (ho:o.op = .fieldAddr T x i) (hx:bF N x (LZ sv off')):di P o N [] (LZ sv (off'+off)) [] :=
 di.qG fun h a w _ q=>by
  obtain ⟨b,len,cap,hd,hv⟩:=hx h a q
  exact ⟨.pointer (some ⟨b,off'+off,none⟩),by simp [execOp,ho,hv,hf b off' w],b,len,cap,hd,rfl⟩
theorem sK {T E:TypeId} {r:Rep α} {q:Rep β} {g off m:Nat} {sv:Value} {x:Operand} {xs:List α} {y:α} {get:α→β} {set:α→β→α} (hy:xs[m]? = some y) (l:Lens r q off get set) (t:fU P T q) (ho:o.op = .load T x) (hx:bF N x (LZ sv (m * r.sz+off))) :
  di P o N [(g,bW sv E r xs)] (fV q (get y)) []:=by
 intro κ B F L h a w hst hn hk _ next Q hnext _
 obtain ⟨b,len,cap,hd,hv⟩:=hx h a hn
 obtain ⟨e,hL,⟨_,rfl,_⟩ | ⟨b',cap',hv',hc,rfl⟩⟩:=hk.1
 ·simp at hy
 rw [hd] at hv';cases hv'
 obtain ⟨cs,rest,hb,hr,_⟩:=JO hst hL
 obtain ⟨p,c,q',rfl,hp,hcr,_⟩:=hr.get hy
 obtain ⟨p2,c2,q2,rfl,hp2,hc2,_⟩:=l h c y hcr
 unfold Oper.rJ
 have hrun:=uP (b:=b) (off:=m * r.sz+off) (w:=w) t (q.len hc2) (fun j v hj=>by
  rw [xI _ _ _ _ _ _ hb]
  have hjl:=(List.getElem?_eq_some_iff.1 hj).1
  simp only [List.getElem?_toArray]
  rw [show p ++ (p2 ++ c2 ++ q2) ++ q' ++ rest=(p ++ p2) ++ (c2 ++ (q2 ++ q' ++ rest)) by simp,List.getElem?_append_right (by simp;omega)]
  rw [show m * r.sz+off+j - (p ++ p2).length=j by simp;omega,List.getElem?_append_left hjl];exact hj)
 have:(execOp a.eval o).run P w = .ok (.value (pack q.agg c2)) w:=by simp [execOp,ho,hv,hrun]
 rw [this]
 exact hnext _ h w L (nI.refl h) ⟨c2,hc2,rfl⟩ hst nJ
theorem BR {T E:TypeId} {r:Rep α} {q:Rep β} {g off m:Nat} {sv:Value} {x v:Operand} {xs:List α} {y:α} {z:β} {get:α→β} {set:α→β→α} {xs':List α} (hy:xs[m]? = some y) (l:Lens r q off get set) (t:fU P T q) (hd:o.dst=none) (ho:o.op = .store T x v)
    (hx:bF N x (LZ sv (m * r.sz+off))) (hv:bF N v (fV q z)) (hs':xs'=xs.set m (set y z)):di P o N [(g,bW sv E r xs)] aQ.rD [(g,some (bW sv E r xs'))]:=by
  subst hs'
  intro κ B F L h a w hst hn hk _ next Q hnext _
  obtain ⟨b,len,cap,hdv,hxv⟩:=hx h a hn
  obtain ⟨e,hL,⟨_,rfl,_⟩ | ⟨b',cap',hv',hc,rfl⟩⟩:=hk.1
  · simp at hy
  have hv0:=hv'
  rw [hdv] at hv';cases hv'
  obtain ⟨cs,rest,hb,hr,hlen⟩:=JO hst hL
  obtain ⟨c',hc',hvv⟩:=hv h a hn
  obtain ⟨p,c,q',rfl,hp,hcr,hset⟩:=hr.get hy
  obtain ⟨p2,c2,q2,rfl,hp2,hc2,Qo⟩:=l h c y hcr
  have hsh:p ++ (p2 ++ c2 ++ q2) ++ q' ++ rest=(p ++ p2) ++ c2 ++ (q2 ++ q' ++ rest):=by simp
  have hsh':(p ++ p2) ++ c' ++ (q2 ++ q' ++ rest)=(p ++ (p2 ++ c' ++ q2) ++ q') ++ rest:=by simp
  have hb0:=hb
  rw [hsh] at hb
  have hrun:=qZ t hc' hb (q.len hc2)
  unfold Oper.rJ
  have hpl:(p ++ p2).length=m * r.sz+off:=by simp;omega
  have:(execOp a.eval o).run P w = .ok .skip (w.setRow b ((p ++ p2) ++ c' ++ (q2 ++ q' ++ rest)).toArray):=by
    simp only [execOp,ho,hxv,hvv,← hpl,Sem.run_bind,hrun,Result.andThen_ok,Sem.run_pure]
  rw [this,hsh']
  obtain ⟨hcl,_⟩:=hst.own (k:=Sum.inl g) hL
  have hno:=(hcl (b,0) (by simp [qM])).2.2
  have hrel:=hset h _ _ (nI.refl h) (Qo h c' z (nI.refl h) hc')
  have hmem:=wY w b (p ++ (p2 ++ c2 ++ q2) ++ q' ++ rest).toArray ((p ++ (p2 ++ c' ++ q2) ++ q') ++ rest).toArray E hb0
  refine hnext undef h _ (set1 L g (qM b E r (xs.set m (set y z)) cap)) (nI.refl h) trivial ?_ ?_
  · refine hst.write (Sum.inl g) (e := qM b E r xs cap) hL (b := b) (lo := 0) (by simp [qM]) hmem (fun i hi => setRow_other w b i _ hi) (by simp [World.setRow]) rfl rfl rfl ?_ vg ?_
    · intro o' u hh;rw [hno o' (Nat.zero_le _)] at hh;cases hh
    · intro e' he
      rw [vk he]
      refine ⟨fun c hc=>hc,_,rest,hmem,hrel,?_⟩
      rw [← hlen]
      have:=q.len hc';have:=q.len hc2
      simp;omega
  · rw [hd]
    exact qL (.inr ⟨b,cap,by rw [List.length_set];exact hv0,by rw [List.length_set];exact hc,rfl⟩)
theorem Tv {T E:TypeId} {r:Rep α} {g d:Nat} {sv:Value} {x y:Operand} {xs ys zs:List α} (hz:app xs ys=some zs) (el:zX P E r) (hT:P.underlying T=some (.slice E)) (hsd:Nat.beq g d=false) (hd:o.dst=some d)
  (ho:o.op = .call { callee:=.builtin .append,args:=#[x,y],argTypes:=#[T,T] }) (hx:bF N x (fV Rep.raw sv)) (hy:bF N y (fV (Rep.slice r) ys)) :
  di P o N [(g,bW sv E r xs)] aQ.rD [(g,none),(d,some (iC E r zs))]:=LD hz el hT hsd hd ho (LC.raw hx) hy
end
def J9 (e1 e2:gq):gq where
 claims:=e1.claims ++ e2.claims
 ok:=fun h m=>e1.ok h m∧e2.ok h m
 mono:=fun hl x=>⟨e1.mono hl x.1,e2.mono hl x.2⟩
 frame:=fun hm x=>⟨e1.frame (fun c hc=>hm c (List.mem_append_left _ hc)) x.1,e2.frame (fun c hc=>hm c (List.mem_append_right _ hc)) x.2⟩
section
variable {r:Rep α} {q:Rep β} {off:Nat} {get:α→List β} {set:α→List β→α} {l:Lens r (Rep.slice q) off get set} {hz:r.zc[off]? = some Bh}
theorem St.ZE {κ:Type} {B:Base} {h:H} {L L':κ→Option gq} {w:World} (hst:St B h L w) (k:κ) {e:gq} {E:TypeId} {ys:List β} {sv:Value} (hk:L k=some e) (hq:iC E q ys sv e) (hL:∀ k' e,k'≠k→L' k'=some e→L k'=some e) (hn:L' k=none) :
    ∃ h',nI h h'∧St B h' L' w∧(Rep.slice q).rel h' [sv] ys:=by
  rcases hq with ⟨⟨base,rfl⟩,rfl,rfl⟩ | ⟨b,cap,rfl,hc,rfl⟩
  · refine ⟨h, nI.refl h, hst.less (fun k' e' he => hL k' e' (fun x => ?_) he), _, rfl, .inl ⟨⟨base, rfl⟩, rfl⟩⟩
    rw [x,hn] at he;cases he
  · obtain ⟨_,cs,rest,hb,hr,hlen⟩:=hst.own hk
    have hb':w.heap[b]? = some (.cells (cs ++ rest).toArray E (0,0)):=hb
    obtain ⟨hl2,hst2⟩:=hst.freeze k (e:=qM b E q ys cap) hk (b:=b) (lo:=0) (by simp [qM]) hb' cs.length (by simp) (L':=L') hL (fun e' he=>by rw [hn] at he;cases he)
    have htk:(cs ++ rest).toArray.toList.take cs.length=cs:=by simp
    rw [htk] at hl2 hst2
    refine ⟨_,hl2,hst2,_,rfl,.inr ⟨b,0,cap,rfl,hc,(hr.mono hl2).refs fun j v hj=>?_,fun _=>hst.mo hk (c:=(b,0)) (by simp [qM])⟩⟩
    have hjl:=(List.getElem?_eq_some_iff.1 hj).1
    rw [Nat.zero_add,zK hjl,← hj,List.getElem?_eq_getElem hjl]

section
variable {κ:Type} {B:Base} {h0:H} {Γ:Ctx} {Λ:Own} {F:κ→Option gq} {n:Nat} {a:Act} {w:World} {T E:TypeId} {x:α} {ts:List bK} {sv:Value} {ys:List β}
end
end
end Go.KB
namespace Go.KB
variable {P:Program} {o:Oper} {N:List (Nat×aQ)} {α β γ:Type}
def NW (P:Program) (d:Nat) (T:TypeId) (r:Rep α) (f:α→α→Bool):Prop:=∀ h v u x y w,r.val h v x→r.val h u y→(Op.equalIn (d+1) T v u).run P w = .ok (f x y) w
theorem NW.int {d:Nat} {T:TypeId} {k k':IntKind} (hT:P.underlying T=some (.int k')):NW P d T (Rep.int k) (fun x y=>x == y):=by
 intro h v u x y w hv hu
 rw [eF.1 hv,eF.1 hu]
 exact run_equalIn_int w d T k k' x y hT
theorem NW.bool {d:Nat} {T:TypeId} (hT:P.underlying T=some .bool):NW P d T Rep.bool (fun x y=>x == y):=by
 intro h v u x y w hv hu
 rw [qF.1 hv,qF.1 hu]
 exact run_equalIn_bool' w d T x y hT
theorem NW.str {d:Nat} {T:TypeId} (hT:P.underlying T=some .string):NW P d T Rep.str (fun x y=>x == y):=by
 intro h v u x y w hv hu
 rw [wZ.1 hv,wZ.1 hu,run_equalIn_string w d T _ _ hT,ByteArray.toList_eq,ByteArray.toList_eq]
def nameB (P:Program) (T:TypeId) (i:Nat):Bool :=
 match P.underlying T with
 | some (.struct fs)=>match fs[i]? with
  | some g=>g.name != "_"
  | none=>false
 | _=>false
def Kq (P:Program) (T:TypeId) (d:Nat) (r:Rep α) (i:Nat) (f:α→α→Bool):Prop:=∀ h cs ds x y w,r.rel h cs x→r.rel h ds y→(Op.eqFields (d+1) cs.toArray ds.toArray ((P.fieldsOf T).toList.drop i)).run P w = .ok (f x y) w
theorem Kq.nil {T:TypeId} {d n:Nat} {r:Rep α} (hn:Nat.beq (P.fieldsOf T).size n=true):Kq P T d r n (fun _ _=>true):=by
 intro h cs ds x y w _ _
 have:(P.fieldsOf T).toList.drop n=[]:=by rw [List.drop_eq_nil_iff];simp [← iQ.1 hn]
 rw [this]
 simp [Op.eqFields]
theorem Kq.cons {T T':TypeId} {d i off:Nat} {r:Rep α} {s:Rep β} {get:α→β} {set:α→β→α} {g:β→β→Bool} {f:α→α→Bool} (l:Lens r s off get set) (hf:Q5 P T i=some (T',off)) (hm:nameB P T i=true) (t:fU P T' s) (e:NW P d T' s g)
  (k:Kq P T d r (i+1) f):Kq P T d r i (fun x y=>g (get x) (get y)&&f x y):=by
 intro h cs ds x y w hx hy
 have hk:=k h cs ds x y w hx hy
 unfold Q5 at hf
 unfold nameB at hm
 unfold Program.fieldsOf at hk ⊢
 split at hf
 ·rename_i fs hT
  rw [hT] at hm hk ⊢
  simp only [] at hm hk ⊢
  split at hf
  ·rename_i fd hfd
   rw [hfd] at hm
   simp only [Option.some.injEq,Prod.mk.injEq,bne_iff_ne] at hf hm
   obtain ⟨rfl,rfl⟩:=hf
   have hlt:=(Array.getElem?_eq_some_iff.1 hfd).1
   have hdr:fs.toList.drop i=fd :: fs.toList.drop (i+1):=by
    rw [List.drop_eq_getElem_cons (by simpa using hlt)]
    congr 1
    have:=(Array.getElem?_eq_some_iff.1 hfd).2
    simpa using this
   rw [hdr]
   obtain ⟨p,c,q,rfl,hp,hc,_⟩:=l h cs x hx
   obtain ⟨p',c',q',rfl,hp',hc',_⟩:=l h ds y hy
   have h1:=Q7 t (p:=p) (r:=q) hc w
   have h2:=Q7 t (p:=p') (r:=q') hc' w
   rw [hp] at h1;rw [hp'] at h2
   have h3:=e h _ _ _ _ w ⟨c,hc,rfl⟩ ⟨c',hc',rfl⟩
   simp only [Op.eqFields,if_pos hm,Sem.run_bind,h1,h2,Result.andThen_ok,h3]
   cases g (get x) (get y) with
   | true=>simpa using hk
   | false=>simp
  ·cases hf
 ·cases hf
theorem NW.struct {T:TypeId} {d:Nat} {r:Rep α} {f:α→α→Bool} (hag:r.agg=true) (ht:P.underlying T=some (.struct (P.fieldsOf T))) (hp:P.stoodInHeld T=false) (k:Kq P T d r 0 f):NW P (d+1) T r f:=by
 intro h v u x y w ⟨cs,hx,hv⟩ ⟨ds,hy,hu⟩
 rw [hv,hu,hag]
 have:=k h cs ds x y w hx hy
 rw [List.drop_zero] at this
 show (Op.equalIn (d+1+1) T (.agg cs.toArray) (.agg ds.toArray)).run P w=_
 rw [run_equalIn_agg w (d+1) T _ _ ht hp,this]
end Go.KB
