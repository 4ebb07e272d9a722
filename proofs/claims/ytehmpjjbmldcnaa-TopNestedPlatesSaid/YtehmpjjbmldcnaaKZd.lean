/- Variables with a field that is a row of one's own. Equality of structs; cuts with a capacity; deletion from a row. No condition. -/
import Derived.Test.YtehmpjjbmldcnaaKZc
namespace Go.KB
variable {P:Program} {o:Oper} {N:List (Nat×aO)} {α β γ:Type}
def Rep.raw:Rep Value where
 sz:=1
 agg:=false
 rel:=fun _ cs v=>cs=[v]∧v.oneCell'=true
 zero:=zL
 zc:=[zL]
 one:=fun _=>rfl
 len:=fun e=>by rw [e.1];rfl
 flat:=fun e c hc=>by rw [e.1] at hc;simp at hc;rw [hc];exact e.2
 mono:=fun _ e=>e
 uy:=fun _=>⟨rfl,rfl⟩
theorem iV.raw {T:TypeId} {q:Rep β} (t:iV P T (Rep.slice q)):iV P T Rep.raw:=⟨t.size,t.agg,t.zero⟩
theorem Rt {h:H} {v x:Value}:Rep.raw.val h v x→v=x:=fun ⟨_,e,e'⟩=>by rw [e',e.1];rfl
section
variable {r:Rep α} {q:Rep β} {off:Nat} {get:α→List β} {set:α→List β→α}
variable {l:Lens r (Rep.slice q) off get set} {hz:r.zc[off]? = some zL}
def YM (sv:Value) (E:TypeId) (r:Rep α) (xs:List α):gK:=fun _ e=>bU E r xs sv e
def Qw (sv:Value) (off:Nat):aO:=⟨none,fun _ _ v=>∃ b len cap,sv = .slice (some ⟨b,0,none⟩) len cap∧v = .pointer (some ⟨b,off,none⟩),fun _ x=>x⟩
theorem Ko.raw {x:Operand} {g:Nat} {sv:Value} {E:TypeId} {r:Rep α} {xs:List α} (hx:bJ N x (fV Rep.raw sv)):Ko N x g (YM sv E r xs) E r xs:=fun h a _ n k=>by rw [Rt (hx h a n)];exact k
theorem LU {g d i:Nat} {sv:Value} {E:TypeId} {r:Rep α} {xs0:List α} {q':gK} {f:FuncId} {fn:Func} {args:List aO} {post:aO} {xs:Array Operand} {ts:Array TypeId} {y:Operand}
  (hc:Gj P f args i (bU E r xs0) q' post) (hf:P.funcs[f]? = some fn) (hbd:qm fn=true) (hd:mM (post :: args)=true) (hsd:Nat.beq g d=false) (hdst:o.dst=some d)
  (ho:o.op = .call { callee:=.value (.func f),args:=xs,argTypes:=ts }) (hy:xs.toList[i]? = some y) (hyx:bJ N y (fV Rep.raw sv)) (hargs:qA N args xs.toList):dw P o N [(g,YM sv E r xs0)] post [(g,none),(d,some q')] :=
 L9 hc hf hbd hd hsd hdst ho hy (Ko.raw hyx) hargs
theorem Nr {T E:TypeId} {r:Rep α} {d:Nat} {n:Nat} {parts:Array (Nat×Operand)} (hn0:n=0) (hp:parts = #[]) (t:iV P E r) (hT:P.underlying T=some (.slice E)) (hd:o.dst=some d) (ho:o.op = .buildSlice T n parts):dw P o N [] aO.pX [(d,some (bU E r []))]:=by
 subst hn0;subst hp
 intro κ B F L h a w hst hn _ hdn next Q hnext _
 obtain ⟨cs,hr,hl,hrun⟩:=run_buildSlice (N:=N) (n:=0) (parts:=#[]) (ys:=([]:List α)) w t hT (by simp) (iy (place:=fun i=>some (i * r.sz,r.sz)) (r:=r.arr 0)) hn
 unfold Oper.oK
 have:(execOp a.eval o).run P w = .ok (.value (.slice (some ⟨w.heap.size,0,none⟩) 0 0)) (w.alloc (.cells cs.toArray E)):=by
  simp only [execOp,ho,Sem.run_bind,hrun,Result.andThen_ok,Sem.run_pure]
 rw [this]
 refine hnext _ h _ (set1 L d (jJ w.heap.size E r ([]:List α) 0)) (lD.refl h) trivial (hst.y8 _ d _ (by intro c hc;simp [jJ] at hc;rw [hc]) ⟨cs,[],by rw [List.append_nil];exact y9 _ _,hr,by rw [List.append_nil,hr.len,hl]⟩) ?_
 rw [hd]
 exact lH (.inr ⟨_,0,fO (hdn d hd),Nat.le_refl _,rfl⟩)
end
def WC (e1 e2:gQ):gQ where
 claims:=e1.claims ++ e2.claims
 ok:=fun h m=>e1.ok h m∧e2.ok h m
 mono:=fun hl x=>⟨e1.mono hl x.1,e2.mono hl x.2⟩
 frame:=fun hm x=>⟨e1.frame (fun c hc=>hm c (List.mem_append_left _ hc)) x.1,e2.frame (fun c hc=>hm c (List.mem_append_right _ hc)) x.2⟩
section
variable {r:Rep α} {q:Rep β} {off:Nat} {get:α→List β} {set:α→List β→α} {l:Lens r (Rep.slice q) off get set} {hz:r.zc[off]? = some zL}
section
variable {κ:Type} {B:Base} {h0:H} {Γ:Ctx} {Λ:Own} {F:κ→Option gQ} {n:Nat} {a:Act} {w:World} {T E:TypeId} {x:α} {ts:List pR} {sv:Value} {ys:List β}
theorem At.Ub (E:TypeId) (q:Rep β) (g:Nat) (hAt:At B h0 Γ Λ F n a w):At B h0 Γ (fun k=>bif Nat.beq g k then some (YM zL E q ([]:List β)) else Λ k) F n a w:=by
 obtain ⟨h,L,hle,hst,yQ,qY,hsz,hdf⟩:=hAt
 have hst':St B h (Sum.elim (set1 L g kM) F) w:=by
  refine hst.step (Sum.inl g) (fun _=>False) (fun b hb=>hb.elim) (Nat.le_refl _) rfl rfl rfl (fun _ _ _=>rfl) (lD.refl h) (fun _ _ _ _=>rfl) ?_ qw ?_
  ·rintro b o' v (hb | hb) hv
   ·exact hb.elim
   ·rw [hst.fresh hb] at hv;cases hv
  ·intro e' he;rw [qx he];exact ⟨fun c hc=>(by cases hc),trivial⟩
 refine ⟨h,_,hle,hst',?_,qY,hsz,hdf⟩
 intro k Q hq
 cases hk:Nat.beq g k with
 | true =>
  simp only [hk,cond_true] at hq
  cases hq
  rw [kL] at hk;subst hk
  exact ⟨kM,by simp [set1],.inl ⟨⟨none,rfl⟩,rfl,rfl⟩⟩
 | false =>
  simp only [hk,cond_false] at hq
  obtain ⟨e,he,hqe⟩:=yQ k Q hq
  have h3:k≠g:=fun x=>by rw [kL.2 x.symm] at hk;cases hk
  exact ⟨e,by simp [set1,h3,he],hqe⟩
end
end
end Go.KB
namespace Go.KB
variable {P:Program} {o:Oper} {N:List (Nat×aO)} {α β γ:Type}
def NG (P:Program) (d:Nat) (T:TypeId) (r:Rep α) (f:α→α→Bool):Prop:=∀ h v u x y w,r.val h v x→r.val h u y→(Op.equalIn (d+1) T v u).run P w = .ok (f x y) w
theorem NG.int {d:Nat} {T:TypeId} {k k':IntKind} (hT:P.underlying T=some (.int k')):NG P d T (Rep.int k) (fun x y=>x == y):=by
 intro h v u x y w hv hu
 rw [eG.1 hv,eG.1 hu]
 exact run_equalIn_int w d T k k' x y hT
theorem NG.bool {d:Nat} {T:TypeId} (hT:P.underlying T=some .bool):NG P d T Rep.bool (fun x y=>x == y):=by
 intro h v u x y w hv hu
 rw [jY.1 hv,jY.1 hu]
 exact run_equalIn_bool' w d T x y hT
theorem NG.str {d:Nat} {T:TypeId} (hT:P.underlying T=some .string):NG P d T Rep.str (fun x y=>x == y):=by
 intro h v u x y w hv hu
 rw [zf.1 hv,zf.1 hu,run_equalIn_string w d T _ _ hT,ByteArray.toList_eq,ByteArray.toList_eq]
def nameB (P:Program) (T:TypeId) (i:Nat):Bool :=
 match P.underlying T with
 | some (.struct fs)=>match fs[i]? with
  | some g=>g.name != "_"
  | none=>false
 | _=>false
def Ib (P:Program) (T:TypeId) (d:Nat) (r:Rep α) (i:Nat) (f:α→α→Bool):Prop:=∀ h cs ds x y w,r.rel h cs x→r.rel h ds y→(Op.eqFields (d+1) cs.toArray ds.toArray ((P.fieldsOf T).toList.drop i)).run P w = .ok (f x y) w
theorem Ib.nil {T:TypeId} {d n:Nat} {r:Rep α} (hn:Nat.beq (P.fieldsOf T).size n=true):Ib P T d r n (fun _ _=>true):=by
 intro h cs ds x y w _ _
 have:(P.fieldsOf T).toList.drop n=[]:=by rw [List.drop_eq_nil_iff];simp [← kL.1 hn]
 rw [this]
 simp [Op.eqFields]
theorem Ib.cons {T T':TypeId} {d i off:Nat} {r:Rep α} {s:Rep β} {get:α→β} {set:α→β→α} {g:β→β→Bool} {f:α→α→Bool} (l:Lens r s off get set) (hf:DC P T i=some (T',off)) (hm:nameB P T i=true) (t:iV P T' s) (e:NG P d T' s g)
  (k:Ib P T d r (i+1) f):Ib P T d r i (fun x y=>g (get x) (get y)&&f x y):=by
 intro h cs ds x y w hx hy
 have hk:=k h cs ds x y w hx hy
 unfold DC at hf
 unfold nameB at hm
 unfold Program.fieldsOf at hk ⊢
 split at hf
 ·rename_i fs hT
  rw [hT] at hm hk ⊢
  simp only [] at hm hk ⊢
  split at hf
  ·rename_i fd hfd
   rw [hfd] at hm
   simp only [Option.some.injEq,Prod.mk.injEq,bne_iff_ne] at hf hm
   obtain ⟨rfl,rfl⟩:=hf
   have hlt:=(Array.getElem?_eq_some_iff.1 hfd).1
   have hdr:fs.toList.drop i=fd :: fs.toList.drop (i+1):=by
    rw [List.drop_eq_getElem_cons (by simpa using hlt)]
    congr 1
    have:=(Array.getElem?_eq_some_iff.1 hfd).2
    simpa using this
   rw [hdr]
   obtain ⟨p,c,q,rfl,hp,hc,_⟩:=l h cs x hx
   obtain ⟨p',c',q',rfl,hp',hc',_⟩:=l h ds y hy
   have h1:=Gu t (p:=p) (r:=q) hc w
   have h2:=Gu t (p:=p') (r:=q') hc' w
   rw [hp] at h1;rw [hp'] at h2
   have h3:=e h _ _ _ _ w ⟨c,hc,rfl⟩ ⟨c',hc',rfl⟩
   simp only [Op.eqFields,if_pos hm,Sem.run_bind,h1,h2,Result.andThen_ok,h3]
   cases g (get x) (get y) with
   | true=>simpa using hk
   | false=>simp
  ·cases hf
 ·cases hf
theorem NG.struct {T:TypeId} {d:Nat} {r:Rep α} {f:α→α→Bool} (hag:r.agg=true) (ht:P.underlying T=some (.struct (P.fieldsOf T))) (hp:P.stoodInHeld T=false) (k:Ib P T d r 0 f):NG P (d+1) T r f:=by
 intro h v u x y w ⟨cs,hx,hv⟩ ⟨ds,hy,hu⟩
 rw [hv,hu,hag]
 have:=k h cs ds x y w hx hy
 rw [List.drop_zero] at this
 show (Op.equalIn (d+1+1) T (.agg cs.toArray) (.agg ds.toArray)).run P w=_
 rw [run_equalIn_agg w (d+1) T _ _ ht hp,this]
theorem Qx {r:Rep α} (n:Nat):∀ v ∈ (Builtin.zeroCells (pack r.agg r.zc).cells n).toList,v.oneCell'=true:=by
 intro v hv
 rw [ql (r.uy ⟨fun _ _=>none,0⟩)] at hv
 simp only [Builtin.zeroCells,Array.toList_map,List.mem_map] at hv
 obtain ⟨k,hk,rfl⟩:=hv
 have hs:0<r.zc.toArray.size:=by
  simp only [Array.toList_range,List.mem_range] at hk
  by_cases h0:r.zc.toArray.size=0
  ·rw [h0,Nat.mul_zero] at hk;exact absurd hk (Nat.not_lt_zero _)
  ·omega
 have hlt:=Nat.mod_lt k hs
 rw [getElem!_pos r.zc.toArray _ hlt]
 exact r.flat (r.uy ⟨fun _ _=>none,0⟩) _ (by simp)
end Go.KB
