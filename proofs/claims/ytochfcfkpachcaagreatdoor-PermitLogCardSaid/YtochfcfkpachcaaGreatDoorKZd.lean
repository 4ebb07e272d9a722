/- Variables with a field that is a row of one's own. Equality of structs; cuts with a capacity; deletion from a row. No condition. -/
import Derived.Test.YtochfcfkpachcaaGreatDoorKZc
namespace Go.KB
variable {P:Program} {o:Oper} {N:List (Nat×bD)} {α β γ:Type}
def Rep.raw:Rep Value where
 sz:=1
 agg:=false
 rel:=fun _ cs v=>cs=[v]∧v.oneCell'=true
 zero:=P8
 zc:=[P8]
 one:=fun _=>rfl
 len:=fun e=>by rw [e.1];rfl
 flat:=fun e c hc=>by rw [e.1] at hc;simp at hc;rw [hc];exact e.2
 mono:=fun _ e=>e
 xq:=fun _=>⟨rfl,rfl⟩
theorem kH.raw {T:TypeId} {q:Rep β} (t:kH P T (Rep.slice q)):kH P T Rep.raw:=⟨t.size,t.agg,t.zero⟩
theorem RI {h:H} {v x:Value}:Rep.raw.val h v x→v=x:=fun ⟨_,e,e'⟩=>by rw [e',e.1];rfl
section
variable {r:Rep α} {q:Rep β} {off:Nat} {get:α→List β} {set:α→List β→α}
variable {l:Lens r (Rep.slice q) off get set} {hz:r.zc[off]? = some P8}
def FM (sv:Value) (E:TypeId) (r:Rep α) (xs:List α):gQ:=fun _ e=>dW E r xs sv e
def YV (sv:Value) (off:Nat):bD:=⟨none,fun _ _ v=>∃ b len cap,sv = .slice (some ⟨b,0,none⟩) len cap∧v = .pointer (some ⟨b,off,none⟩),fun _ x=>x⟩
theorem Qg.raw {x:Operand} {g:Nat} {sv:Value} {E:TypeId} {r:Rep α} {xs:List α} (hx:dD N x (fV Rep.raw sv)):Qg N x g (FM sv E r xs) E r xs:=fun h a _ n k=>by rw [RI (hx h a n)];exact k
theorem V4 {T E E':TypeId} {r:Rep α} {g:Nat} {sv:Value} {x:Operand} {xs:List α} (hT:P.underlying T=some (.slice E')) (ho:o.op = .call { callee:=.builtin .len,args:=#[x],argTypes:=#[T] }) (hx:dD N x (fV Rep.raw sv)) :
  fC P o N [(g,FM sv E r xs)] (fV (Rep.int .i64) (xs.length:Int)) []:=by
 intro κ B F L h a w hst hn hk _ next Q hnext _
 obtain ⟨e,_,hq⟩:=hk.1
 have hx':a.eval x=sv:=RI (hx h a hn)
 have:(execOp a.eval o).run P w = .ok (.value (.int .i64 (xs.length:Int))) w:=by
  rcases hq with ⟨⟨base,hv⟩,rfl,_⟩ | ⟨b,cap,hv,_,_⟩
  ·simp [execOp,ho,resolve,invoke,builtin,Builtin.len_,hx',hv,run_underlying hT,goInt]
  ·simp [execOp,ho,resolve,invoke,builtin,Builtin.len_,hx',hv,run_underlying hT,goInt]
 unfold Oper.qB
 rw [this]
 exact hnext _ h w L (nO.refl h) (nD.2 rfl) hst nY
theorem Ru {T E:TypeId} {r:Rep α} {g:Nat} {sv:Value} {k:IntKind} {x i:Operand} {xs:List α} {n:Int} {y:α} (hq:idx xs n=some y) (t:kH P E r) (hT:P.underlying T=some (.slice E)) (ho:o.op = .indexAddr T x i) (hx:dD N x (fV Rep.raw sv)) (hi:dD N i (fV (Rep.int k) n)) :
  fC P o N [(g,FM sv E r xs)] (YV sv (n.toNat * r.sz)) []:=by
 obtain ⟨h0,h1,_⟩:=qE hq
 intro κ B F L h a w hst hn hk _ next Q hnext _
 obtain ⟨e,_,⟨_,rfl,_⟩ | ⟨b,cap,hv,_,_⟩⟩:=hk.1
 ·exact absurd h1 (Nat.not_lt_zero _)
 have hx':a.eval x=sv:=RI (hx h a hn)
 unfold Oper.qB
 have hb:0≤n∧n<xs.length:=by omega
 have:(execOp a.eval o).run P w = .ok (.value (.pointer (some ⟨b,n.toNat * r.sz,none⟩))) w:=by
  simp [execOp,ho,hx',hv,nD.1 (hi h a hn),Instr.indexAt,asIntOf,run_underlying hT,hb,t.size,Addr.add_mid]
 rw [this]
 exact hnext _ h w L (nO.refl h) ⟨b,_,cap,hv,rfl⟩ hst nY
theorem EH {T:TypeId} {i off off':Nat} {sv:Value} {x:Operand} (hf:dL P T i off) (ho:o.op = .fieldAddr T x i) (hx:dD N x (YV sv off')):fC P o N [] (YV sv (off'+off)) [] :=
 fC.rM fun h a w _ q=>by
  obtain ⟨b,len,cap,hd,hv⟩:=hx h a q
  exact ⟨.pointer (some ⟨b,off'+off,none⟩),by simp [execOp,ho,hv,hf b off' w],b,len,cap,hd,rfl⟩
theorem TG {T E:TypeId} {r:Rep α} {q:Rep β} {g off m:Nat} {sv:Value} {x:Operand} {xs:List α} {y:α} {get:α→β} {set:α→β→α} (hy:xs[m]? = some y) (l:Lens r q off get set) (t:kH P T q) (ho:o.op = .load T x) (hx:dD N x (YV sv (m * r.sz+off))) :
  fC P o N [(g,FM sv E r xs)] (fV q (get y)) []:=by
 intro κ B F L h a w hst hn hk _ next Q hnext _
 obtain ⟨b,len,cap,hd,hv⟩:=hx h a hn
 obtain ⟨e,hL,⟨_,rfl,_⟩ | ⟨b',cap',hv',hc,rfl⟩⟩:=hk.1
 ·simp at hy
 rw [hd] at hv';cases hv'
 obtain ⟨cs,rest,hb,hr,_⟩:=Jb hst hL
 obtain ⟨p,c,q',rfl,hp,hcr,_⟩:=hr.get hy
 obtain ⟨p2,c2,q2,rfl,hp2,hc2,_⟩:=l h c y hcr
 unfold Oper.qB
 have hrun:=yt (b:=b) (off:=m * r.sz+off) (w:=w) t (q.len hc2) (fun j v hj=>by
  rw [yh _ _ _ _ _ _ hb]
  have hjl:=(List.getElem?_eq_some_iff.1 hj).1
  simp only [List.getElem?_toArray]
  rw [show p ++ (p2 ++ c2 ++ q2) ++ q' ++ rest=(p ++ p2) ++ (c2 ++ (q2 ++ q' ++ rest)) by simp,List.getElem?_append_right (by simp;omega)]
  rw [show m * r.sz+off+j - (p ++ p2).length=j by simp;omega,List.getElem?_append_left hjl];exact hj)
 have:(execOp a.eval o).run P w = .ok (.value (pack q.agg c2)) w:=by simp [execOp,ho,hv,hrun]
 rw [this]
 exact hnext _ h w L (nO.refl h) ⟨c2,hc2,rfl⟩ hst nY
theorem Qr {T E:TypeId} {r:Rep α} {q:Rep β} {g off m:Nat} {sv:Value} {x v:Operand} {xs:List α} {y:α} {z:β} {get:α→β} {set:α→β→α} {xs':List α} (hy:xs[m]? = some y) (l:Lens r q off get set) (t:kH P T q) (hd:o.dst=none) (ho:o.op = .store T x v)
    (hx:dD N x (YV sv (m * r.sz+off))) (hv:dD N v (fV q z)) (hs':xs'=xs.set m (set y z)):fC P o N [(g,FM sv E r xs)] bD.qy [(g,some (FM sv E r xs'))]:=by
  subst hs'
  intro κ B F L h a w hst hn hk _ next Q hnext _
  obtain ⟨b,len,cap,hdv,hxv⟩:=hx h a hn
  obtain ⟨e,hL,⟨_,rfl,_⟩ | ⟨b',cap',hv',hc,rfl⟩⟩:=hk.1
  · simp at hy
  have hv0:=hv'
  rw [hdv] at hv';cases hv'
  obtain ⟨cs,rest,hb,hr,hlen⟩:=Jb hst hL
  obtain ⟨c',hc',hvv⟩:=hv h a hn
  obtain ⟨p,c,q',rfl,hp,hcr,hset⟩:=hr.get hy
  obtain ⟨p2,c2,q2,rfl,hp2,hc2,X3⟩:=l h c y hcr
  have hsh:p ++ (p2 ++ c2 ++ q2) ++ q' ++ rest=(p ++ p2) ++ c2 ++ (q2 ++ q' ++ rest):=by simp
  have hsh':(p ++ p2) ++ c' ++ (q2 ++ q' ++ rest)=(p ++ (p2 ++ c' ++ q2) ++ q') ++ rest:=by simp
  have hb0:=hb
  rw [hsh] at hb
  have hrun:=uQ t hc' hb (q.len hc2)
  unfold Oper.qB
  have hpl:(p ++ p2).length=m * r.sz+off:=by simp;omega
  have:(execOp a.eval o).run P w = .ok .skip (w.setRow b ((p ++ p2) ++ c' ++ (q2 ++ q' ++ rest)).toArray):=by
    simp only [execOp,ho,hxv,hvv,← hpl,Sem.run_bind,hrun,Result.andThen_ok,Sem.run_pure]
  rw [this,hsh']
  obtain ⟨hcl,_⟩:=hst.own (k:=Sum.inl g) hL
  have hno:=(hcl (b,0) (by simp [oW])).2.2
  have hrel:=hset h _ _ (nO.refl h) (X3 h c' z (nO.refl h) hc')
  have hmem:=yu w b (p ++ (p2 ++ c2 ++ q2) ++ q' ++ rest).toArray ((p ++ (p2 ++ c' ++ q2) ++ q') ++ rest).toArray E hb0
  refine hnext undef h _ (set1 L g (oW b E r (xs.set m (set y z)) cap)) (nO.refl h) trivial ?_ ?_
  · refine hst.write (Sum.inl g) (e := oW b E r xs cap) hL (b := b) (lo := 0) (by simp [oW]) hmem (fun i hi => setRow_other w b i _ hi) (by simp [World.setRow]) rfl rfl rfl ?_ um ?_
    · intro o' u hh;rw [hno o' (Nat.zero_le _)] at hh;cases hh
    · intro e' he
      rw [uo he]
      refine ⟨fun c hc=>hc,_,rest,hmem,hrel,?_⟩
      rw [← hlen]
      have:=q.len hc';have:=q.len hc2
      simp;omega
  · rw [hd]
    exact nP (.inr ⟨b,cap,by rw [List.length_set];exact hv0,by rw [List.length_set];exact hc,rfl⟩)
theorem Gn {T E:TypeId} {r:Rep α} {d:Nat} {n:Nat} {parts:Array (Nat×Operand)} (hn0:n=0) (hp:parts = #[]) (t:kH P E r) (hT:P.underlying T=some (.slice E)) (hd:o.dst=some d) (ho:o.op = .buildSlice T n parts):fC P o N [] bD.qy [(d,some (dW E r []))]:=by
 subst hn0;subst hp
 intro κ B F L h a w hst hn _ hdn next Q hnext _
 obtain ⟨cs,hr,hl,hrun⟩:=run_buildSlice (N:=N) (n:=0) (parts:=#[]) (ys:=([]:List α)) w t hT (by simp) (gB (place:=fun i=>some (i * r.sz,r.sz)) (r:=r.arr 0)) hn
 unfold Oper.qB
 have:(execOp a.eval o).run P w = .ok (.value (.slice (some ⟨w.heap.size,0,none⟩) 0 0)) (w.alloc (.cells cs.toArray E)):=by
  simp only [execOp,ho,Sem.run_bind,hrun,Result.andThen_ok,Sem.run_pure]
 rw [this]
 refine hnext _ h _ (set1 L d (oW w.heap.size E r ([]:List α) 0)) (nO.refl h) trivial (hst.zS _ d _ (by intro c hc;simp [oW] at hc;rw [hc]) ⟨cs,[],by rw [List.append_nil];exact zT _ _,hr,by rw [List.append_nil,hr.len,hl]⟩) ?_
 rw [hd]
 exact nP (.inr ⟨_,0,iQ (hdn d hd),Nat.le_refl _,rfl⟩)
end
def Ee (e1 e2:jh):jh where
 claims:=e1.claims ++ e2.claims
 ok:=fun h m=>e1.ok h m∧e2.ok h m
 mono:=fun hl x=>⟨e1.mono hl x.1,e2.mono hl x.2⟩
 frame:=fun hm x=>⟨e1.frame (fun c hc=>hm c (List.mem_append_left _ hc)) x.1,e2.frame (fun c hc=>hm c (List.mem_append_right _ hc)) x.2⟩
section
variable {r:Rep α} {q:Rep β} {off:Nat} {get:α→List β} {set:α→List β→α} {l:Lens r (Rep.slice q) off get set} {hz:r.zc[off]? = some P8}
def jE (T:TypeId) (R:Rep (α×Value)) (x:α) (ts:List dM) (E:TypeId) (q:Rep β) (ys:List β):gQ:=fun v e=>∃ sv e1 e2,dS T R (x,sv) ts v e1∧dW E q ys sv e2∧Jy e1.claims e2.claims∧e=Ee e1 e2
def NV (q:gQ):gQ:=fun v e=>∃ x y z,v = .tuple #[x,y,z]∧q x e
theorem St.V8 {κ:Type} {B:Base} {h:H} {L L':κ→Option jh} {w:World} (hst:St B h L w) (k:κ) {e:jh} {E:TypeId} {ys:List β} {sv:Value} (hk:L k=some e) (hq:dW E q ys sv e) (hL:∀ k' e,k'≠k→L' k'=some e→L k'=some e) (hn:L' k=none) :
    ∃ h',nO h h'∧St B h' L' w∧(Rep.slice q).rel h' [sv] ys:=by
  rcases hq with ⟨⟨base,rfl⟩,rfl,rfl⟩ | ⟨b,cap,rfl,hc,rfl⟩
  · refine ⟨h, nO.refl h, hst.less (fun k' e' he => hL k' e' (fun x => ?_) he), _, rfl, .inl ⟨⟨base, rfl⟩, rfl⟩⟩
    rw [x,hn] at he;cases he
  · obtain ⟨_,cs,rest,hb,hr,hlen⟩:=hst.own hk
    have hb':w.heap[b]? = some (.cells (cs ++ rest).toArray E (0,0)):=hb
    obtain ⟨hl2,hst2⟩:=hst.freeze k (e:=oW b E q ys cap) hk (b:=b) (lo:=0) (by simp [oW]) hb' cs.length (by simp) (L':=L') hL (fun e' he=>by rw [hn] at he;cases he)
    have htk:(cs ++ rest).toArray.toList.take cs.length=cs:=by simp
    rw [htk] at hl2 hst2
    refine ⟨_,hl2,hst2,_,rfl,.inr ⟨b,0,cap,rfl,hc,(hr.mono hl2).refs fun j v hj=>?_,fun _=>hst.mo hk (c:=(b,0)) (by simp [oW])⟩⟩
    have hjl:=(List.getElem?_eq_some_iff.1 hj).1
    rw [Nat.zero_add,Bz hjl,← hj,List.getElem?_eq_getElem hjl]

section
variable {κ:Type} {B:Base} {h0:H} {Γ:Ctx} {Λ:Own} {F:κ→Option jh} {n:Nat} {a:Act} {w:World} {T E:TypeId} {x:α} {ts:List dM} {sv:Value} {ys:List β}
theorem At.Jw {R:Rep (α×Value)} (s g:Nat) (hsg:Nat.beq s g=false) (hAt:At B h0 Γ Λ F n a w) (hs:Λ s=some (jE T R x ts E q ys)) :
  ∃ sv,At B h0 Γ (fun k=>bif Nat.beq s k then some (dS T R (x,sv) ts) else bif Nat.beq g k then some (FM sv E q ys) else Λ k) F n a w:=by
 obtain ⟨h,L,hle,hst,rP,mV,hsz,hdf⟩:=hAt
 obtain ⟨e,hL,sv,e1,e2,h1,h2,hd,rfl⟩:=rP s _ hs
 have hne:s≠g:=fun x=>by rw [jg.2 x] at hsg;cases hsg
 obtain ⟨_,k1,k2⟩:=hst.own (k:=Sum.inl s) hL
 have hst':=hst.split2 (d:=g) (e1:=e1) (e2:=e2) hL hne (fun c hc=>List.mem_append_left _ hc) (fun c hc=>List.mem_append_right _ hc) hd k1 k2
 refine ⟨sv,h,_,hle,hst',?_,mV,hsz,hdf⟩
 intro k Q hq
 cases hk:Nat.beq s k with
 | true =>
  simp only [hk,cond_true] at hq
  cases hq
  rw [jg] at hk;subst hk
  exact ⟨e1,by simp [set1,hne],h1⟩
 | false =>
  simp only [hk,cond_false] at hq
  cases hk2:Nat.beq g k with
  | true =>
   simp only [hk2,cond_true] at hq
   cases hq
   rw [jg] at hk2;subst hk2
   exact ⟨e2,by simp [set1],h2⟩
  | false =>
   simp only [hk2,cond_false] at hq
   obtain ⟨e,he,hqe⟩:=rP k Q hq
   have h3:k≠s:=fun x=>by rw [jg.2 x.symm] at hk;cases hk
   have h4:k≠g:=fun x=>by rw [jg.2 x.symm] at hk2;cases hk2
   exact ⟨e,by simp [set1,h3,h4,he],hqe⟩
end
end
end Go.KB
namespace Go.KB
variable {P:Program} {o:Oper} {N:List (Nat×bD)} {α β γ:Type}
def P6 (P:Program) (d:Nat) (T:TypeId) (r:Rep α) (f:α→α→Bool):Prop:=∀ h v u x y w,r.val h v x→r.val h u y→(Op.equalIn (d+1) T v u).run P w = .ok (f x y) w
theorem P6.int {d:Nat} {T:TypeId} {k k':IntKind} (hT:P.underlying T=some (.int k')):P6 P d T (Rep.int k) (fun x y=>x == y):=by
 intro h v u x y w hv hu
 rw [nD.1 hv,nD.1 hu]
 exact run_equalIn_int w d T k k' x y hT
theorem P6.bool {d:Nat} {T:TypeId} (hT:P.underlying T=some .bool):P6 P d T Rep.bool (fun x y=>x == y):=by
 intro h v u x y w hv hu
 rw [kW.1 hv,kW.1 hu]
 exact run_equalIn_bool' w d T x y hT
theorem P6.str {d:Nat} {T:TypeId} (hT:P.underlying T=some .string):P6 P d T Rep.str (fun x y=>x == y):=by
 intro h v u x y w hv hu
 rw [uq.1 hv,uq.1 hu,run_equalIn_string w d T _ _ hT,ByteArray.toList_eq,ByteArray.toList_eq]
def nameB (P:Program) (T:TypeId) (i:Nat):Bool :=
 match P.underlying T with
 | some (.struct fs)=>match fs[i]? with
  | some g=>g.name != "_"
  | none=>false
 | _=>false
def LD (P:Program) (T:TypeId) (d:Nat) (r:Rep α) (i:Nat) (f:α→α→Bool):Prop:=∀ h cs ds x y w,r.rel h cs x→r.rel h ds y→(Op.eqFields (d+1) cs.toArray ds.toArray ((P.fieldsOf T).toList.drop i)).run P w = .ok (f x y) w
theorem LD.nil {T:TypeId} {d n:Nat} {r:Rep α} (hn:Nat.beq (P.fieldsOf T).size n=true):LD P T d r n (fun _ _=>true):=by
 intro h cs ds x y w _ _
 have:(P.fieldsOf T).toList.drop n=[]:=by rw [List.drop_eq_nil_iff];simp [← jg.1 hn]
 rw [this]
 simp [Op.eqFields]
theorem LD.cons {T T':TypeId} {d i off:Nat} {r:Rep α} {s:Rep β} {get:α→β} {set:α→β→α} {g:β→β→Bool} {f:α→α→Bool} (l:Lens r s off get set) (hf:Ec P T i=some (T',off)) (hm:nameB P T i=true) (t:kH P T' s) (e:P6 P d T' s g)
  (k:LD P T d r (i+1) f):LD P T d r i (fun x y=>g (get x) (get y)&&f x y):=by
 intro h cs ds x y w hx hy
 have hk:=k h cs ds x y w hx hy
 unfold Ec at hf
 unfold nameB at hm
 unfold Program.fieldsOf at hk ⊢
 split at hf
 ·rename_i fs hT
  rw [hT] at hm hk ⊢
  simp only [] at hm hk ⊢
  split at hf
  ·rename_i fd hfd
   rw [hfd] at hm
   simp only [Option.some.injEq,Prod.mk.injEq,bne_iff_ne] at hf hm
   obtain ⟨rfl,rfl⟩:=hf
   have hlt:=(Array.getElem?_eq_some_iff.1 hfd).1
   have hdr:fs.toList.drop i=fd :: fs.toList.drop (i+1):=by
    rw [List.drop_eq_getElem_cons (by simpa using hlt)]
    congr 1
    have:=(Array.getElem?_eq_some_iff.1 hfd).2
    simpa using this
   rw [hdr]
   obtain ⟨p,c,q,rfl,hp,hc,_⟩:=l h cs x hx
   obtain ⟨p',c',q',rfl,hp',hc',_⟩:=l h ds y hy
   have h1:=Oz t (p:=p) (r:=q) hc w
   have h2:=Oz t (p:=p') (r:=q') hc' w
   rw [hp] at h1;rw [hp'] at h2
   have h3:=e h _ _ _ _ w ⟨c,hc,rfl⟩ ⟨c',hc',rfl⟩
   simp only [Op.eqFields,if_pos hm,Sem.run_bind,h1,h2,Result.andThen_ok,h3]
   cases g (get x) (get y) with
   | true=>simpa using hk
   | false=>simp
  ·cases hf
 ·cases hf
theorem P6.struct {T:TypeId} {d:Nat} {r:Rep α} {f:α→α→Bool} (hag:r.agg=true) (ht:P.underlying T=some (.struct (P.fieldsOf T))) (hp:P.stoodInHeld T=false) (k:LD P T d r 0 f):P6 P (d+1) T r f:=by
 intro h v u x y w ⟨cs,hx,hv⟩ ⟨ds,hy,hu⟩
 rw [hv,hu,hag]
 have:=k h cs ds x y w hx hy
 rw [List.drop_zero] at this
 show (Op.equalIn (d+1+1) T (.agg cs.toArray) (.agg ds.toArray)).run P w=_
 rw [run_equalIn_agg w (d+1) T _ _ ht hp,this]
theorem Vf {r:Rep α} (n:Nat):∀ v ∈ (Builtin.zeroCells (pack r.agg r.zc).cells n).toList,v.oneCell'=true:=by
 intro v hv
 rw [vK (r.xq ⟨fun _ _=>none,0⟩)] at hv
 simp only [Builtin.zeroCells,Array.toList_map,List.mem_map] at hv
 obtain ⟨k,hk,rfl⟩:=hv
 have hs:0<r.zc.toArray.size:=by
  simp only [Array.toList_range,List.mem_range] at hk
  by_cases h0:r.zc.toArray.size=0
  ·rw [h0,Nat.mul_zero] at hk;exact absurd hk (Nat.not_lt_zero _)
  ·omega
 have hlt:=Nat.mod_lt k hs
 rw [getElem!_pos r.zc.toArray _ hlt]
 exact r.flat (r.xq ⟨fun _ _=>none,0⟩) _ (by simp)
end Go.KB
