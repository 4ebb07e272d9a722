/- Variables with a field that is a row of one's own. Equality of structs; cuts with a capacity; deletion from a row. No condition. -/
import Derived.Test.YtmkofmfndcoflaaKZc
namespace Go.KB
variable {P:Program} {o:Oper} {N:List (Nat×ay)} {α β γ:Type}
def Rep.raw:Rep Value where
 sz:=1
 agg:=false
 rel:=fun _ cs v=>cs=[v]∧v.oneCell'=true
 zero:=EM
 zc:=[EM]
 one:=fun _=>rfl
 len:=fun e=>by rw [e.1];rfl
 flat:=fun e c hc=>by rw [e.1] at hc;simp at hc;rw [hc];exact e.2
 mono:=fun _ e=>e
 mY:=fun _=>⟨rfl,rfl⟩
theorem fQ.raw {T:TypeId} {q:Rep β} (t:fQ P T (Rep.slice q)):fQ P T Rep.raw:=⟨t.size,t.agg,t.zero⟩
theorem FU {h:H} {v x:Value}:Rep.raw.val h v x→v=x:=fun ⟨_,e,e'⟩=>by rw [e',e.1];rfl
section
variable {r:Rep α} {q:Rep β} {off:Nat} {get:α→List β} {set:α→List β→α}
variable {l:Lens r (Rep.slice q) off get set} {hz:r.zc[off]? = some EM}
def Df (sv:Value) (E:TypeId) (r:Rep α) (xs:List α):dw:=fun _ e=>aU E r xs sv e
def Lm (sv:Value) (off:Nat):ay:=⟨none,fun _ _ v=>∃ b len cap,sv = .slice (some ⟨b,0,none⟩) len cap∧v = .pointer (some ⟨b,off,none⟩),fun _ x=>x⟩
theorem Bd.raw {x:Operand} {g:Nat} {sv:Value} {E:TypeId} {r:Rep α} {xs:List α} (hx:aO N x (fV Rep.raw sv)):Bd N x g (Df sv E r xs) E r xs:=fun h a _ n k=>by rw [FU (hx h a n)];exact k
theorem HY {T E:TypeId} {r:Rep α} {g:Nat} {sv:Value} {k:IntKind} {x i:Operand} {xs:List α} {n:Int} {y:α} (hq:idx xs n=some y) (t:fQ P E r) (hT:P.underlying T=some (.slice E)) (ho:o.op = .indexAddr T x i) (hx:aO N x (fV Rep.raw sv)) (hi:aO N i (fV (Rep.int k) n)) :
  bn P o N [(g,Df sv E r xs)] (Lm sv (n.toNat * r.sz)) []:=by
 obtain ⟨h0,h1,_⟩:=bF hq
 intro κ B F L h a w hst hn hk _ next Q hnext _
 obtain ⟨e,_,⟨_,rfl,_⟩ | ⟨b,cap,hv,_,_⟩⟩:=hk.1
 ·exact absurd h1 (Nat.not_lt_zero _)
 have hx':a.eval x=sv:=FU (hx h a hn)
 unfold Oper.jy
 have hb:0≤n∧n<xs.length:=by omega
 have:(execOp a.eval o).run P w = .ok (.value (.pointer (some ⟨b,n.toNat * r.sz,none⟩))) w:=by
  simp [execOp,ho,hx',hv,aZ.1 (hi h a hn),Instr.indexAt,asIntOf,run_underlying hT,hb,t.size,Addr.add_mid]
 rw [this]
 exact hnext _ h w L (gW.refl h) ⟨b,_,cap,hv,rfl⟩ hst gX
theorem H6 {T E:TypeId} {r:Rep α} {q:Rep β} {g off m:Nat} {sv:Value} {x:Operand} {xs:List α} {y:α} {get:α→β} {set:α→β→α} (hy:xs[m]? = some y) (l:Lens r q off get set) (t:fQ P T q) (ho:o.op = .load T x) (hx:aO N x (Lm sv (m * r.sz+off))) :
  bn P o N [(g,Df sv E r xs)] (fV q (get y)) []:=by
 intro κ B F L h a w hst hn hk _ next Q hnext _
 obtain ⟨b,len,cap,hd,hv⟩:=hx h a hn
 obtain ⟨e,hL,⟨_,rfl,_⟩ | ⟨b',cap',hv',hc,rfl⟩⟩:=hk.1
 ·simp at hy
 rw [hd] at hv';cases hv'
 obtain ⟨cs,rest,hb,hr,_⟩:=ug hst hL
 obtain ⟨p,c,q',rfl,hp,hcr,_⟩:=hr.get hy
 obtain ⟨p2,c2,q2,rfl,hp2,hc2,_⟩:=l h c y hcr
 unfold Oper.jy
 have hrun:=lC (b:=b) (off:=m * r.sz+off) (w:=w) t (q.len hc2) (fun j v hj=>by
  rw [jW _ _ _ _ _ _ hb]
  have hjl:=(List.getElem?_eq_some_iff.1 hj).1
  simp only [List.getElem?_toArray]
  rw [show p ++ (p2 ++ c2 ++ q2) ++ q' ++ rest=(p ++ p2) ++ (c2 ++ (q2 ++ q' ++ rest)) by simp,List.getElem?_append_right (by simp;omega)]
  rw [show m * r.sz+off+j - (p ++ p2).length=j by simp;omega,List.getElem?_append_left hjl];exact hj)
 have:(execOp a.eval o).run P w = .ok (.value (pack q.agg c2)) w:=by simp [execOp,ho,hv,hrun]
 rw [this]
 exact hnext _ h w L (gW.refl h) ⟨c2,hc2,rfl⟩ hst gX
theorem Gq {T E:TypeId} {r:Rep α} {q:Rep β} {g off m:Nat} {sv:Value} {x v:Operand} {xs:List α} {y:α} {z:β} {get:α→β} {set:α→β→α} {xs':List α} (hy:xs[m]? = some y) (l:Lens r q off get set) (t:fQ P T q) (hd:o.dst=none) (ho:o.op = .store T x v)
    (hx:aO N x (Lm sv (m * r.sz+off))) (hv:aO N v (fV q z)) (hs':xs'=xs.set m (set y z)):bn P o N [(g,Df sv E r xs)] ay.kV [(g,some (Df sv E r xs'))]:=by
  subst hs'
  intro κ B F L h a w hst hn hk _ next Q hnext _
  obtain ⟨b,len,cap,hdv,hxv⟩:=hx h a hn
  obtain ⟨e,hL,⟨_,rfl,_⟩ | ⟨b',cap',hv',hc,rfl⟩⟩:=hk.1
  · simp at hy
  have hv0:=hv'
  rw [hdv] at hv';cases hv'
  obtain ⟨cs,rest,hb,hr,hlen⟩:=ug hst hL
  obtain ⟨c',hc',hvv⟩:=hv h a hn
  obtain ⟨p,c,q',rfl,hp,hcr,hset⟩:=hr.get hy
  obtain ⟨p2,c2,q2,rfl,hp2,hc2,DF⟩:=l h c y hcr
  have hsh:p ++ (p2 ++ c2 ++ q2) ++ q' ++ rest=(p ++ p2) ++ c2 ++ (q2 ++ q' ++ rest):=by simp
  have hsh':(p ++ p2) ++ c' ++ (q2 ++ q' ++ rest)=(p ++ (p2 ++ c' ++ q2) ++ q') ++ rest:=by simp
  have hb0:=hb
  rw [hsh] at hb
  have hrun:=kM t hc' hb (q.len hc2)
  unfold Oper.jy
  have hpl:(p ++ p2).length=m * r.sz+off:=by simp;omega
  have:(execOp a.eval o).run P w = .ok .skip (w.setRow b ((p ++ p2) ++ c' ++ (q2 ++ q' ++ rest)).toArray):=by
    simp only [execOp,ho,hxv,hvv,← hpl,Sem.run_bind,hrun,Result.andThen_ok,Sem.run_pure]
  rw [this,hsh']
  obtain ⟨hcl,_⟩:=hst.own (k:=Sum.inl g) hL
  have hno:=(hcl (b,0) (by simp [dB])).2.2
  have hrel:=hset h _ _ (gW.refl h) (DF h c' z (gW.refl h) hc')
  have hmem:=kF w b (p ++ (p2 ++ c2 ++ q2) ++ q' ++ rest).toArray ((p ++ (p2 ++ c' ++ q2) ++ q') ++ rest).toArray E hb0
  refine hnext undef h _ (set1 L g (dB b E r (xs.set m (set y z)) cap)) (gW.refl h) trivial ?_ ?_
  · refine hst.write (Sum.inl g) (e := dB b E r xs cap) hL (b := b) (lo := 0) (by simp [dB]) hmem (fun i hi => setRow_other w b i _ hi) (by simp [World.setRow]) rfl rfl rfl ?_ jO ?_
    · intro o' u hh;rw [hno o' (Nat.zero_le _)] at hh;cases hh
    · intro e' he
      rw [jP he]
      refine ⟨fun c hc=>hc,_,rest,hmem,hrel,?_⟩
      rw [← hlen]
      have:=q.len hc';have:=q.len hc2
      simp;omega
  · rw [hd]
    exact jh (.inr ⟨b,cap,by rw [List.length_set];exact hv0,by rw [List.length_set];exact hc,rfl⟩)
theorem xg {T E:TypeId} {r:Rep α} {d:Nat} {n:Nat} {parts:Array (Nat×Operand)} (hn0:n=0) (hp:parts = #[]) (t:fQ P E r) (hT:P.underlying T=some (.slice E)) (hd:o.dst=some d) (ho:o.op = .buildSlice T n parts):bn P o N [] ay.kV [(d,some (aU E r []))]:=by
 subst hn0;subst hp
 intro κ B F L h a w hst hn _ hdn next Q hnext _
 obtain ⟨cs,hr,hl,hrun⟩:=run_buildSlice (N:=N) (n:=0) (parts:=#[]) (ys:=([]:List α)) w t hT (by simp) (gG (place:=fun i=>some (i * r.sz,r.sz)) (r:=r.arr 0)) hn
 unfold Oper.jy
 have:(execOp a.eval o).run P w = .ok (.value (.slice (some ⟨w.heap.size,0,none⟩) 0 0)) (w.alloc (.cells cs.toArray E)):=by
  simp only [execOp,ho,Sem.run_bind,hrun,Result.andThen_ok,Sem.run_pure]
 rw [this]
 refine hnext _ h _ (set1 L d (dB w.heap.size E r ([]:List α) 0)) (gW.refl h) trivial (hst.xE _ d _ (by intro c hc;simp [dB] at hc;rw [hc]) ⟨cs,[],by rw [List.append_nil];exact xG _ _,hr,by rw [List.append_nil,hr.len,hl]⟩) ?_
 rw [hd]
 exact jh (.inr ⟨_,0,bP (hdn d hd),Nat.le_refl _,rfl⟩)
end
def sJ (e1 e2:cZ):cZ where
 claims:=e1.claims ++ e2.claims
 ok:=fun h m=>e1.ok h m∧e2.ok h m
 mono:=fun hl x=>⟨e1.mono hl x.1,e2.mono hl x.2⟩
 frame:=fun hm x=>⟨e1.frame (fun c hc=>hm c (List.mem_append_left _ hc)) x.1,e2.frame (fun c hc=>hm c (List.mem_append_right _ hc)) x.2⟩
section
variable {r:Rep α} {q:Rep β} {off:Nat} {get:α→List β} {set:α→List β→α} {l:Lens r (Rep.slice q) off get set} {hz:r.zc[off]? = some EM}
theorem St.JF {κ:Type} {B:Base} {h:H} {L L':κ→Option cZ} {w:World} (hst:St B h L w) (k:κ) {e:cZ} {E:TypeId} {ys:List β} {sv:Value} (hk:L k=some e) (hq:aU E q ys sv e) (hL:∀ k' e,k'≠k→L' k'=some e→L k'=some e) (hn:L' k=none) :
    ∃ h',gW h h'∧St B h' L' w∧(Rep.slice q).rel h' [sv] ys:=by
  rcases hq with ⟨⟨base,rfl⟩,rfl,rfl⟩ | ⟨b,cap,rfl,hc,rfl⟩
  · refine ⟨h, gW.refl h, hst.less (fun k' e' he => hL k' e' (fun x => ?_) he), _, rfl, .inl ⟨⟨base, rfl⟩, rfl⟩⟩
    rw [x,hn] at he;cases he
  · obtain ⟨_,cs,rest,hb,hr,hlen⟩:=hst.own hk
    have hb':w.heap[b]? = some (.cells (cs ++ rest).toArray E (0,0)):=hb
    obtain ⟨hl2,hst2⟩:=hst.freeze k (e:=dB b E q ys cap) hk (b:=b) (lo:=0) (by simp [dB]) hb' cs.length (by simp) (L':=L') hL (fun e' he=>by rw [hn] at he;cases he)
    have htk:(cs ++ rest).toArray.toList.take cs.length=cs:=by simp
    rw [htk] at hl2 hst2
    refine ⟨_,hl2,hst2,_,rfl,.inr ⟨b,0,cap,rfl,hc,(hr.mono hl2).refs fun j v hj=>?_⟩⟩
    have hjl:=(List.getElem?_eq_some_iff.1 hj).1
    rw [Nat.zero_add,sN hjl,← hj,List.getElem?_eq_getElem hjl]

section
variable {κ:Type} {B:Base} {h0:H} {Γ:Ctx} {Λ:Own} {F:κ→Option cZ} {n:Nat} {a:Act} {w:World} {T E:TypeId} {x:α} {ts:List qf} {sv:Value} {ys:List β}
end
end
end Go.KB
namespace Go.KB
variable {P:Program} {o:Oper} {N:List (Nat×ay)} {α β γ:Type}
def BP (P:Program) (d:Nat) (T:TypeId) (r:Rep α) (f:α→α→Bool):Prop:=∀ h v u x y w,r.val h v x→r.val h u y→(Op.equalIn (d+1) T v u).run P w = .ok (f x y) w
theorem BP.int {d:Nat} {T:TypeId} {k k':IntKind} (hT:P.underlying T=some (.int k')):BP P d T (Rep.int k) (fun x y=>x == y):=by
 intro h v u x y w hv hu
 rw [aZ.1 hv,aZ.1 hu]
 exact run_equalIn_int w d T k k' x y hT
theorem BP.bool {d:Nat} {T:TypeId} (hT:P.underlying T=some .bool):BP P d T Rep.bool (fun x y=>x == y):=by
 intro h v u x y w hv hu
 rw [fK.1 hv,fK.1 hu]
 exact run_equalIn_bool' w d T x y hT
theorem BP.str {d:Nat} {T:TypeId} (hT:P.underlying T=some .string):BP P d T Rep.str (fun x y=>x == y):=by
 intro h v u x y w hv hu
 rw [uh.1 hv,uh.1 hu,run_equalIn_string w d T _ _ hT,ByteArray.toList_eq,ByteArray.toList_eq]
def nameB (P:Program) (T:TypeId) (i:Nat):Bool :=
 match P.underlying T with
 | some (.struct fs)=>match fs[i]? with
  | some g=>g.name != "_"
  | none=>false
 | _=>false
def yD (P:Program) (T:TypeId) (d:Nat) (r:Rep α) (i:Nat) (f:α→α→Bool):Prop:=∀ h cs ds x y w,r.rel h cs x→r.rel h ds y→(Op.eqFields (d+1) cs.toArray ds.toArray ((P.fieldsOf T).toList.drop i)).run P w = .ok (f x y) w
theorem yD.nil {T:TypeId} {d n:Nat} {r:Rep α} (hn:Nat.beq (P.fieldsOf T).size n=true):yD P T d r n (fun _ _=>true):=by
 intro h cs ds x y w _ _
 have:(P.fieldsOf T).toList.drop n=[]:=by rw [List.drop_eq_nil_iff];simp [← gY.1 hn]
 rw [this]
 simp [Op.eqFields]
theorem yD.cons {T T':TypeId} {d i off:Nat} {r:Rep α} {s:Rep β} {get:α→β} {set:α→β→α} {g:β→β→Bool} {f:α→α→Bool} (l:Lens r s off get set) (hf:DI P T i=some (T',off)) (hm:nameB P T i=true) (t:fQ P T' s) (e:BP P d T' s g)
  (k:yD P T d r (i+1) f):yD P T d r i (fun x y=>g (get x) (get y)&&f x y):=by
 intro h cs ds x y w hx hy
 have hk:=k h cs ds x y w hx hy
 unfold DI at hf
 unfold nameB at hm
 unfold Program.fieldsOf at hk ⊢
 split at hf
 ·rename_i fs hT
  rw [hT] at hm hk ⊢
  simp only [] at hm hk ⊢
  split at hf
  ·rename_i fd hfd
   rw [hfd] at hm
   simp only [Option.some.injEq,Prod.mk.injEq,bne_iff_ne] at hf hm
   obtain ⟨rfl,rfl⟩:=hf
   have hlt:=(Array.getElem?_eq_some_iff.1 hfd).1
   have hdr:fs.toList.drop i=fd :: fs.toList.drop (i+1):=by
    rw [List.drop_eq_getElem_cons (by simpa using hlt)]
    congr 1
    have:=(Array.getElem?_eq_some_iff.1 hfd).2
    simpa using this
   rw [hdr]
   obtain ⟨p,c,q,rfl,hp,hc,_⟩:=l h cs x hx
   obtain ⟨p',c',q',rfl,hp',hc',_⟩:=l h ds y hy
   have h1:=zS t (p:=p) (r:=q) hc w
   have h2:=zS t (p:=p') (r:=q') hc' w
   rw [hp] at h1;rw [hp'] at h2
   have h3:=e h _ _ _ _ w ⟨c,hc,rfl⟩ ⟨c',hc',rfl⟩
   simp only [Op.eqFields,if_pos hm,Sem.run_bind,h1,h2,Result.andThen_ok,h3]
   cases g (get x) (get y) with
   | true=>simpa using hk
   | false=>simp
  ·cases hf
 ·cases hf
theorem BP.struct {T:TypeId} {d:Nat} {r:Rep α} {f:α→α→Bool} (hag:r.agg=true) (ht:P.underlying T=some (.struct (P.fieldsOf T))) (hp:P.stoodInHeld T=false) (k:yD P T d r 0 f):BP P (d+1) T r f:=by
 intro h v u x y w ⟨cs,hx,hv⟩ ⟨ds,hy,hu⟩
 rw [hv,hu,hag]
 have:=k h cs ds x y w hx hy
 rw [List.drop_zero] at this
 show (Op.equalIn (d+1+1) T (.agg cs.toArray) (.agg ds.toArray)).run P w=_
 rw [run_equalIn_agg w (d+1) T _ _ ht hp,this]
def Gy (a b c n:Int):Option Unit:=bif decide (0≤a)&&decide (a≤b)&&decide (b≤c)&&decide (c≤n) then some () else none
theorem Gz {a b c n:Int} {u:Unit} (h:Gy a b c n=some u):0≤a∧a≤b∧b≤c∧c≤n:=by
 unfold Gy at h
 cases hb:(decide (0≤a)&&decide (a≤b)&&decide (b≤c)&&decide (c≤n)) with
 | true=>simp at hb;exact ⟨hb.1.1.1,hb.1.1.2,hb.1.2,hb.2⟩
 | false=>rw [hb] at h;cases h
theorem Dl {T E:TypeId} {r:Rep α} {k1 k2 k3:IntKind} {s:Nat} {x i j m:Operand} {xs:List α} {a1 a2 a3:Int} {u:Unit} (hq:Gy a1 a2 a3 (xs.length:Int)=some u) (t:fQ P E r) (hT:P.underlying T=some (.slice E)) (ho:o.op = .slice T x (some i) (some j) (some m))
  (hx:aO N x (Aw s)) (hi:aO N i (fV (Rep.int k1) a1)) (hj:aO N j (fV (Rep.int k2) a2)) (hm:aO N m (fV (Rep.int k3) a3)):bn P o N [(s,aU E r xs)] ay.kV []:=by
 obtain ⟨h0,h1,h2,h3⟩:=Gz hq
 intro κ B F L h a w hst hn hk _ next Q hnext _
 obtain ⟨e,_,hq⟩:=hk.1
 have hx':a.eval x=a.gt s:=hx h a hn
 have:∃ base cap,a.gt s = .slice base xs.length cap∧xs.length≤cap:=by
  rcases hq with ⟨⟨base,hv⟩,rfl,_⟩ | ⟨b,cap,hv,hc,_⟩
  ·exact ⟨base,0,hv,Nat.le_refl _⟩
  ·exact ⟨_,cap,hv,hc⟩
 obtain ⟨base,cap,hv,hc⟩:=this
 have e1:0≤a3∧a3≤(cap:Int):=by omega
 have e2:0≤a2∧a2≤a3:=by omega
 have e3:0≤a1∧a1≤a2:=by omega
 have m3:max a3 0=a3:=by omega
 have m2:max a2 0=a2:=by omega
 unfold Oper.jy
 have hrun:∃ v,(execOp a.eval o).run P w = .ok (.value v) w:=⟨.slice (if a3.toNat=a1.toNat then base else base.map (·.add (a1.toNat * r.sz))) (a2.toNat - a1.toNat) (a3.toNat - a1.toNat),by
  simp [execOp,ho,hx',hv,aZ.1 (hi h a hn),aZ.1 (hj h a hn),aZ.1 (hm h a hn),Instr.sliceAt,Instr.slice,run_underlying hT,Instr.sliceBounds,Instr.sliceBound,asIntOf,e1,e2,e3,m2,m3,t.size]⟩
 obtain ⟨v,hrun⟩:=hrun
 rw [hrun]
 exact hnext _ h w L (gW.refl h) trivial hst gX
def Dn (E:TypeId) (r:Rep α) (ys:List α) (m:Nat):dw:=fun v e=>((∃ base,v = .slice base 0 0)∧ys=[]∧e=oM∧m=0)∨∃ b cap,v = .slice (some ⟨b,0,none⟩) ys.length cap∧ys.length≤cap∧m≤cap∧e=dB b E r ys cap
def GH (xs:List α) (l1 n1 j m:Nat):Option (List α):=bif Nat.beq l1 0&&Nat.ble n1 j&&Nat.beq (j+m) xs.length then some (xs.take n1 ++ xs.drop j) else none
theorem GK {xs ys:List α} {l1 n1 j m:Nat} (h:GH xs l1 n1 j m=some ys):l1=0∧n1≤j∧j+m=xs.length∧ys=xs.take n1 ++ xs.drop j:=by
 unfold GH at h
 cases hb:(Nat.beq l1 0&&Nat.ble n1 j&&Nat.beq (j+m) xs.length) with
 | true=>rw [hb] at h;cases h;simp only [Bool.and_eq_true,Nat.beq_eq,Nat.ble_eq] at hb;exact ⟨hb.1.1,hb.1.2,hb.2,rfl⟩
 | false=>rw [hb] at h;cases h
theorem BI {T E:TypeId} {r:Rep α} {s d l1 n1 j m:Nat} {x y:Operand} {xs ys:List α} (hz:GH xs l1 n1 j m=some ys) (el:rW P E r) (hT:P.underlying T=some (.slice E)) (hsd:Nat.beq s d=false) (hd:o.dst=some d)
  (ho:o.op = .call { callee:=.builtin .append,args:=#[x,y],argTypes:=#[T,T] }) (hx:aO N x (fSub s r.sz l1 n1)) (hy:aO N y (fSub s r.sz j m)) :
  bn P o N [(s,aU E r xs)] ay.kV [(s,none),(d,some (Dn E r ys xs.length))]:=by
 obtain ⟨rfl,hij,hjm,rfl⟩:=GK hz
 obtain ⟨i,hi,hsz,hby,hzero⟩:=el.out
 have hne:s≠d:=fun x=>by rw [gY.2 x] at hsd;cases hsd
 intro κ B F L h a w hst hn hk hdn next Q hnext _
 obtain ⟨e,hL,hq⟩:=hk.1
 have hL:L s=some e:=hL
 have hq:aU E r xs (a.gt s) e:=hq
 have hrun:∀ v w',(Builtin.append_ #[T,T] o.type #[a.eval x,a.eval y]).run P w = .ok v w'→(execOp a.eval o).run P w = .ok (.value v) w':=by
  intro v w' hr
  simp only [execOp,ho,resolve,invoke,builtin,Sem.run_bind,Sem.run_pure,Result.andThen_ok,List.map_toArray,List.map_cons,List.map_nil,hr]
 have hxv:(∃ base,a.gt s = .slice base 0 0∧a.eval x = .slice base 0 0∧(0:Nat)=0∧n1=0)∨∃ b p L cap,a.gt s = .slice (some ⟨b,p,none⟩) L cap∧0+n1≤L∧a.eval x = .slice (some ⟨b,if cap=0 then p else p+0 * r.sz,none⟩) n1 (cap - 0):=hx h a hn
 have hyv:(∃ base,a.gt s = .slice base 0 0∧a.eval y = .slice base 0 0∧j=0∧m=0)∨∃ b p L cap,a.gt s = .slice (some ⟨b,p,none⟩) L cap∧j+m≤L∧a.eval y = .slice (some ⟨b,if cap=j then p else p+j * r.sz,none⟩) m (cap - j):=hy h a hn
 have hy0:∃ y' c',a.eval y = .slice y' m c':=by
  rcases hyv with ⟨base,_,h2,_,rfl⟩ | ⟨b,p,L,cap,_,_,h3⟩
  ·exact ⟨_,_,h2⟩
  ·exact ⟨_,_,h3⟩
 obtain ⟨y',c',hy0⟩:=hy0
 unfold Oper.jy
 rcases hq with ⟨⟨base,hv⟩,rfl,rfl⟩ | ⟨b,cap,hv,hcap,rfl⟩
 ·simp only [List.length_nil] at hjm
  have hm0:m=0:=by omega
  have hn0:n1=0:=by omega
  subst hm0;subst hn0
  have hxx:a.eval x = .slice base 0 0:=by
   rcases hxv with ⟨base',h1,h2,_⟩ | ⟨b,p,L,cap,h1,_,h3⟩
   ·rw [hv] at h1;cases h1;exact h2
   ·rw [hv] at h1;cases h1;simpa using h3
  rw [hrun _ _ (by rw [hxx,hy0];exact run_append_nothing w hT hi base 0 0 (Nat.le_refl _) y' c')]
  refine hnext _ h w _ (gW.refl h) trivial (hst.mv s d) ?_
  rw [hd]
  exact vg hne hL (by rw [bP (hdn d hd)];exact .inl ⟨⟨base,rfl⟩,by simp,rfl,by simp⟩)
 ·have hxx:a.eval x = .slice (some ⟨b,0,none⟩) n1 cap:=by
   rcases hxv with ⟨base',h1,h2,_,h4⟩ | ⟨b',p,L,cap',h1,_,h3⟩
   ·rw [hv] at h1;injection h1 with h5 h6 h7;rw [h2,← h5,h7,h4]
   ·rw [hv] at h1;cases h1;simpa using h3
  obtain ⟨cs,rest,hb,hr0,hlen⟩:=ug hst hL
  have hlt:(xs.take n1).length=n1:=by rw [List.length_take];omega
  by_cases hm0:m=0
  ·subst hm0
   have hdr:xs.take n1 ++ xs.drop j=xs.take n1:=by rw [show xs.drop j=[] by rw [List.drop_eq_nil_iff];omega,List.append_nil]
   rw [hrun _ _ (by rw [hxx,hy0];exact run_append_nothing w hT hi (some ⟨b,0,none⟩) n1 cap (by omega) y' c')]
   have hst1:St B h (Sum.elim (set1 L s (dB b E r (xs.take n1) cap)) F) w:=by
    obtain ⟨c,d',rfl,hr'⟩:=hr0.take n1 (by omega)
    refine hst.swap hL (fun c hc=>⟨c,hc,rfl,Nat.le_refl _⟩) ⟨c,d' ++ rest,?_,hr',?_⟩
    ·simpa [World.mem] using hb
    ·rw [← hlen];simp
   refine hnext _ h w _ (gW.refl h) trivial (hst1.mv s d) ?_
   rw [hd,hdr]
   exact uj (fun k hk=>by simp [set1,hk]) hne (by simp [set1]) (.inr ⟨b,cap,by rw [bP (hdn d hd),hlt],by omega,by omega,rfl⟩)
  ·have hyy:a.eval y = .slice (some ⟨b,j * r.sz,none⟩) m (cap - j):=by
    rcases hyv with ⟨_,_,_,_,h4⟩ | ⟨b',p,L,cap',h1,_,h3⟩
    ·exact absurd h4 hm0
    ·rw [hv] at h1;cases h1
     rw [if_neg (by omega),Nat.zero_add] at h3;exact h3
   obtain ⟨c1,c2,rfl,hr1,hr2⟩:=hr0.split j (by omega)
   obtain ⟨a1,a2,hca,ha1⟩:=hr1.take n1 (by rw [List.length_take];omega)
   have ht:(xs.take j).take n1=xs.take n1:=by rw [List.take_take,Nat.min_eq_left hij]
   rw [ht] at ha1
   have hl1:c1.length=j * r.sz:=by rw [hr1.len,List.length_take];congr 1;omega
   have hla:a1.length=n1 * r.sz:=by rw [ha1.len,hlt]
   have hl2:c2.length=m * r.sz:=by rw [hr2.len,List.length_drop];congr 1;omega
   have hroom:n1+m≤cap:=by omega
   have hlen':c1.length+c2.length+rest.length=cap * r.sz:=by rw [← hlen];simp;omega
   have hmul:(n1+m) * r.sz≤(j+m) * r.sz:=Nat.mul_le_mul_right _ (by omega)
   rw [Nat.add_mul,Nat.add_mul] at hmul
   have hr:=nR (P:=P) (ty:=o.type) w hT hi b 0 n1 cap (c1 ++ c2 ++ rest).toArray hb ⟨b,j * r.sz,none⟩ m (cap - j) c2 (by rw [hl2,hsz]) (fun t u hu=>by
    rw [Addr.add_mid,jW _ _ _ _ _ _ hb]
    have hul:=(List.getElem?_eq_some_iff.1 hu).1
    simp only [List.getElem?_toArray]
    rw [List.append_assoc,List.getElem?_append_right (by omega),hl1,Nat.add_sub_cancel_left,List.getElem?_append_left hul];exact hu) hr2.flat hroom (by rw [hsz];simp;omega)
   rw [hsz,Nat.zero_add] at hr
   rw [hrun _ _ (by rw [hxx,hyy];exact hr)]
   have htk:(c1 ++ c2 ++ rest).toArray.toList.take (n1 * r.sz)=a1:=by
    simp only []
    rw [hca,← hla];simp
   rw [htk]
   generalize hT':List.drop (n1 * r.sz+c2.length) (c1 ++ c2 ++ rest).toArray.toList=T'
   have hTl:(a1 ++ c2).length+T'.length=cap * r.sz:=by rw [← hT'];simp;omega
   obtain ⟨hcl,_⟩:=hst.own (k:=Sum.inl s) hL
   have hno:=(hcl (b,0) (by simp [dB])).2.2
   have hmem:=kF w b (c1 ++ c2 ++ rest).toArray ((a1 ++ c2) ++ T').toArray E hb
   have hst1:St B h (Sum.elim (set1 L s (dB b E r (xs.take n1 ++ xs.drop j) cap)) F) (w.setRow b ((a1 ++ c2) ++ T').toArray):=by
    refine hst.write (Sum.inl s) (e:=dB b E r xs cap) hL (b:=b) (lo:=0) (by simp [dB]) hmem (fun i hi=>setRow_other w b i _ hi) (by simp [World.setRow]) rfl rfl rfl ?_ jO ?_
    ·intro o' u hh;rw [hno o' (Nat.zero_le _)] at hh;cases hh
    ·intro e' he
     rw [jP he]
     exact ⟨fun c hc=>hc,_,_,hmem,ha1.append hr2,by rw [List.length_append];exact hTl⟩
   refine hnext _ h _ _ (gW.refl h) trivial (hst1.mv s d) ?_
   have hly:(xs.take n1 ++ xs.drop j).length=n1+m:=by rw [List.length_append,hlt,List.length_drop];omega
   rw [hd]
   exact uj (fun k hk=>by simp [set1,hk]) hne (by simp [set1]) (.inr ⟨b,cap,by rw [bP (hdn d hd),hly],by omega,by omega,rfl⟩)
theorem DJ {E:TypeId} {r:Rep α} {ys:List α} {m:Nat} {v:Value} {e:cZ} (h:Dn E r ys m v e):∃ base cap,v = .slice base ys.length cap∧ys.length≤cap∧m≤cap:=by
 rcases h with ⟨⟨base,hv⟩,rfl,_,rfl⟩ | ⟨b,cap,hv,hc,hm,_⟩
 ·exact ⟨base,0,hv,Nat.le_refl _,Nat.le_refl _⟩
 ·exact ⟨_,cap,hv,hc,hm⟩
theorem JC {T E E':TypeId} {r:Rep α} {s m:Nat} {x:Operand} {xs:List α} (hT:P.underlying T=some (.slice E')) (ho:o.op = .call { callee:=.builtin .len,args:=#[x],argTypes:=#[T] }) (hx:aO N x (Aw s)) :
  bn P o N [(s,Dn E r xs m)] (fV (Rep.int .i64) (xs.length:Int)) []:=by
 intro κ B F L h a w hst hn hk _ next Q hnext _
 obtain ⟨e,_,hq⟩:=hk.1
 have hx':a.eval x=a.gt s:=hx h a hn
 obtain ⟨base,cap,hv,_⟩:=DJ hq
 have hv':a.gt s=_:=hv
 have:(execOp a.eval o).run P w = .ok (.value (.int .i64 (xs.length:Int))) w:=by
  simp [execOp,ho,resolve,invoke,builtin,Builtin.len_,hx',hv',run_underlying hT,goInt]
 unfold Oper.jy
 rw [this]
 exact hnext _ h w L (gW.refl h) (aZ.2 rfl) hst gX
theorem Ic {b:Bool} {u:Unit} (h:(bif b then some () else none)=some u):b=true:=by cases b with
 | true=>rfl
 | false=>cases h
def J8 (s sz lo n:Nat):ay:=⟨some s,fun _ d v=>∃ base cap,d = .slice base lo cap∧lo+n≤cap∧v = .slice (if cap=lo then base else base.map (·.add (lo * sz))) n (cap - lo),fun _ x=>x⟩
theorem Ib {T E:TypeId} {r:Rep α} {s m:Nat} {k k':IntKind} {x i j:Operand} {xs:List α} {a1 a2:Int} (hq:(Nat.beq a1.toNat xs.length&&Nat.ble a1.toNat a2.toNat&&Nat.ble a2.toNat m&&decide (0≤a1)&&decide (0≤a2))=true) (t:fQ P E r) (hT:P.underlying T=some (.slice E)) (ho:o.op = .slice T x (some i) (some j) none)
  (hx:aO N x (Aw s)) (hi:aO N i (fV (Rep.int k) a1)) (hj:aO N j (fV (Rep.int k') a2)):bn P o N [(s,Dn E r xs m)] (J8 s r.sz xs.length (a2.toNat - xs.length)) []:=by
 simp only [Bool.and_eq_true,Nat.beq_eq,Nat.ble_eq,decide_eq_true_eq] at hq
 obtain ⟨⟨⟨⟨q1,q2⟩,q3⟩,q4⟩,q5⟩:=hq
 have q1:a1.toNat=xs.length:=q1
 intro κ B F L h a w hst hn hk _ next Q hnext _
 obtain ⟨e,_,hq⟩:=hk.1
 have hx':a.eval x=a.gt s:=hx h a hn
 obtain ⟨base,cap,hv,hc,hm⟩:=DJ hq
 have hv':a.gt s=_:=hv
 have e1:0≤a2∧a2≤(cap:Int):=by omega
 have e2:0≤a1∧a1≤a2:=by omega
 have m2:max a2 0=a2:=by omega
 unfold Oper.jy
 have:(execOp a.eval o).run P w = .ok (.value (.slice (if cap=xs.length then base else base.map (·.add (xs.length * r.sz))) (a2.toNat - xs.length) (cap - xs.length))) w:=by
  simp [execOp,ho,hx',hv',aZ.1 (hi h a hn),aZ.1 (hj h a hn),Instr.sliceAt,Instr.slice,run_underlying hT,Instr.sliceBounds,Instr.sliceBound,asIntOf,e1,e2,m2,t.size,q1]
 rw [this]
 exact hnext _ h w L (gW.refl h) ⟨base,cap,hv',by omega,rfl⟩ hst gX
theorem EN {r:Rep α} (n:Nat):∀ v ∈ (Builtin.zeroCells (pack r.agg r.zc).cells n).toList,v.oneCell'=true:=by
 intro v hv
 rw [jH (r.mY (fun _ _=>none))] at hv
 simp only [Builtin.zeroCells,Array.toList_map,List.mem_map] at hv
 obtain ⟨k,hk,rfl⟩:=hv
 have hs:0<r.zc.toArray.size:=by
  simp only [Array.toList_range,List.mem_range] at hk
  by_cases h0:r.zc.toArray.size=0
  ·rw [h0,Nat.mul_zero] at hk;exact absurd hk (Nat.not_lt_zero _)
  ·omega
 have hlt:=Nat.mod_lt k hs
 rw [getElem!_pos r.zc.toArray _ hlt]
 exact r.flat (r.mY (fun _ _=>none)) _ (by simp)
theorem Gu {T E:TypeId} {r:Rep α} {s m lo n:Nat} {x:Operand} {xs:List α} (hlo:lo=xs.length) (t:fQ P E r) (hT:P.underlying T=some (.slice E)) (hd:o.dst=none) (ho:o.op = .call { callee:=.builtin .clear,args:=#[x],argTypes:=#[T] })
    (hx:aO N x (J8 s r.sz lo n)):bn P o N [(s,Dn E r xs m)] ay.kV [(s,some (aU E r xs))]:=by
  subst hlo
  intro κ B F L h a w hst hn hk _ next Q hnext _
  obtain ⟨e,hL,hq⟩:=hk.1
  have hL:L s=some e:=hL
  have hq:Dn E r xs m (a.gt s) e:=hq
  obtain ⟨base,cap,hdv,hcap,hv⟩:=hx h a hn
  have hdv:a.gt s=_:=hdv
  unfold Oper.jy
  have hrun:∀ w',(Builtin.clear_ #[T] o.type #[a.eval x]).run P w = .ok (.tuple #[]) w'→(execOp a.eval o).run P w = .ok (.value (.tuple #[])) w':=by
    intro w' hr
    simp only [execOp,ho,resolve,invoke,builtin,Sem.run_bind,Sem.run_pure,Result.andThen_ok,List.map_toArray,List.map_cons,List.map_nil,hr]
  have hq':aU E r xs (a.gt s) e:=by
    rcases hq with ⟨h1,h2,h3,_⟩ | ⟨b,cap,h1,h2,_,h3⟩
    · exact .inl ⟨h1,h2,h3⟩
    · exact .inr ⟨b,cap,h1,h2,h3⟩
  by_cases hn0:n=0
  · subst hn0
    rw [hrun w (by rw [hv];cases base <;> (try split) <;> simp [Builtin.clear_,run_underlying hT])]
    refine hnext _ h w L (gW.refl h) trivial hst ?_
    rw [hd]
    have:=jh (L:=L) (s:=s) (e:=e) (d:=none) (a:=a.put none (.tuple #[])) (q:=aU E r xs) hq'
    rwa [sO hL] at this
  · rcases hq with ⟨⟨base',hv'⟩,rfl,rfl,_⟩ | ⟨b,cap',hv',hc,_,rfl⟩
    · rw [hdv] at hv';cases hv'
      simp at hcap;omega
    · rw [hdv] at hv';cases hv'
      obtain ⟨cs,rest,hb,hr,hlen⟩:=ug hst hL
      rw [if_neg (by omega)] at hv
      have hv:a.eval x = .slice (some ⟨b,xs.length * r.sz,none⟩) n (cap - xs.length):=by rw [hv];simp [Addr.add_mid]
      have hzc:(pack r.agg r.zc).cells.size=r.sz:=by rw [jH (r.mY h)];simp [r.len (r.mY h)]
      have hzl:(Builtin.zeroCells (pack r.agg r.zc).cells n).toList.length=n * r.sz:=by rw [Lp,hzc]
      have hmul:(xs.length+n) * r.sz≤cap * r.sz:=Nat.mul_le_mul_right _ hcap
      rw [Nat.add_mul] at hmul
      have hcl0:=hr.len
      have hlen':cs.length+rest.length=cap * r.sz:=by rw [← hlen,List.length_append]
      have Gw:=run_storeCells_at P b (xs.length * r.sz) E (Builtin.zeroCells (pack r.agg r.zc).cells n).toList 0 (cs ++ rest).toArray w hb (by rw [hzl];simp;omega) (EN n)
      simp only [Nat.add_zero] at Gw
      generalize hZ:(Builtin.zeroCells (pack r.agg r.zc).cells n).toList=Z at Gw hzl
      have hnew:(cs ++ rest).toArray.toList.take (xs.length * r.sz) ++ Z ++ (cs ++ rest).toArray.toList.drop (xs.length * r.sz+Z.length)=cs ++ (Z ++ rest.drop Z.length):=by
        rw [← hcl0];simp [List.drop_append]
      rw [hnew] at Gw
      obtain ⟨n',rfl⟩:∃ n',n=n'+1:=⟨n - 1,by omega⟩
      rw [hrun (w.setRow b (cs ++ (Z ++ rest.drop Z.length)).toArray) (by rw [hv];simp [Builtin.clear_,run_underlying hT,t.zero,hZ,Gw])]
      obtain ⟨hcl,_⟩:=hst.own (k:=Sum.inl s) hL
      have hno:=(hcl (b,0) (by simp [dB])).2.2
      have hmem:=kF w b (cs ++ rest).toArray (cs ++ (Z ++ rest.drop Z.length)).toArray E hb
      refine hnext _ h _ (set1 L s (dB b E r xs cap)) (gW.refl h) trivial ?_ ?_
      · refine hst.write (Sum.inl s) (e := dB b E r xs cap) hL (b := b) (lo := 0) (by simp [dB]) hmem (fun i hi => setRow_other w b i _ hi) (by simp [World.setRow]) rfl rfl rfl ?_ jO ?_
        · intro o' u hh;rw [hno o' (Nat.zero_le _)] at hh;cases hh
        · intro e' he
          rw [jP he]
          refine ⟨fun c hc=>hc,cs,_,hmem,hr,?_⟩
          rw [← hlen];simp;omega
      · rw [hd]
        exact jh (.inr ⟨b,cap,hdv,hc,rfl⟩)
end Go.KB
