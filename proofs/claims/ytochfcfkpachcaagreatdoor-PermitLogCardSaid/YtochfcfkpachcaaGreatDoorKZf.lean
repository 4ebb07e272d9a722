/- Raw cells, variables that hold maps, variables that are captured or that go to keys that are no slots. Functions as numbers, slices of which nil is known, regions in parts, objects that are handed back. Variables of which several fields are rows or maps that are owned. clear of the end of a row that is owned. Struct values of which several fields are rows that are owned: variables, arguments, results. maps.Clone: a copy of a map that is owned. No condition. -/
import Derived.Test.YtochfcfkpachcaaGreatDoorKZe
import Derived.Lib.LazyBuf
namespace Go.KB
variable {P:Program} {o:Oper} {N:List (Nat×bD)} {α β:Type}
def Rep.Xk (z:Value) (hz:z.oneCell'=true):Rep Value where
 sz:=1
 agg:=false
 rel:=fun _ cs v=>cs=[v]∧v.oneCell'=true
 zero:=z
 zc:=[z]
 one:=fun _=>rfl
 len:=fun e=>by rw [e.1];rfl
 flat:=fun e c hc=>by rw [e.1] at hc;simp at hc;rw [hc];exact e.2
 mono:=fun _ e=>e
 xq:=fun _=>⟨rfl,hz⟩
abbrev Rep.FI:Rep Value:=Rep.Xk (.map none) rfl
abbrev Rep.fM:Rep Value:=Rep.Xk (.pointer none) rfl
theorem TI {z:Value} {hz:z.oneCell'=true} {h:H} {v x:Value}:(Rep.Xk z hz).val h v x→v=x:=fun ⟨_,e,e'⟩=>by rw [e',e.1];rfl
theorem iw {T:TypeId} {z:Value} {hz:z.oneCell'=true} {sv:Value} {x:Operand} (t:kH P T (Rep.Xk z hz)) (ho:o.op = .load T x) (hx:dD N x (bQ (Rep.Xk z hz) sv)):fC P o N [] (fJ sv) [] :=
 fC.out (f:=fV (Rep.Xk z hz) sv) (f':=fJ sv) rfl (fun _ _ _ hp=>TI (z:=z) (hz:=hz) hp) (jy t ho hx)
section
variable {κ:Type} {B:Base} {h0:H} {Γ:Ctx} {Λ:Own} {F:κ→Option jh} {n:Nat} {a:Act} {w:World}
theorem St.DC {h:H} {L:Nat→Option jh} (hst:St B h (Sum.elim L F) w) (s:Nat) {b:Nat} {T:TypeId} {r:Rep α} {x:α} (hL:L s=some (xO b T r x)) :
  ∃ h',nO h h'∧St B h' (Sum.elim (fun k=>if k=s then none else L k) F) w∧zQ r h' b 0 x:=by
 obtain ⟨cs,hb,hr⟩:=Jd hst hL
 obtain ⟨hl2,hst2⟩:=hst.freeze (Sum.inl s) (e:=xO b T r x) hL (b:=b) (lo:=0) (by simp [xO]) hb cs.length (by simp) (L':=Sum.elim (fun k=>if k=s then none else L k) F) (by
  intro k' e' hne he
  cases k' with
  | inr k=>exact he
  | inl k =>
   have:k≠s:=fun x=>hne (by rw [x])
   simpa [this] using he) (fun e' he=>by simp at he)
 have htk:cs.toArray.toList.take cs.length=cs:=by simp
 rw [htk] at hl2 hst2
 refine ⟨_,hl2,hst2,cs,r.mono hl2 hr,fun j v hj=>?_⟩
 have hjl:=(List.getElem?_eq_some_iff.1 hj).1
 rw [Nat.zero_add,Bz hjl,← hj,List.getElem?_eq_getElem hjl]
theorem At.DC {T:TypeId} {r:Rep α} {x:α} (s:Nat) (hAt:At B h0 Γ Λ F n a w) (hs:Λ s=some (bT T r x)) :
  At B h0 (fun k=>bif Nat.beq s k then bQ r x else Γ k) (fun k=>bif Nat.beq s k then none else Λ k) F n a w:=by
 obtain ⟨h,L,hle,hst,rP,mV,hsz,hdf⟩:=hAt
 obtain ⟨e,hL,b,hv,rfl⟩:=rP s _ hs
 obtain ⟨h',hl,hst',hr⟩:=hst.DC s hL
 refine ⟨h',_,hle.trans hl,hst',?_,?_,hsz,hdf⟩
 ·intro k q hq
  cases hk:Nat.beq s k with
  | true=>simp only [hk,cond_true] at hq;cases hq
  | false =>
   simp only [hk,cond_false] at hq
   have:k≠s:=fun x=>by rw [jg.2 x.symm] at hk;cases hk
   simpa [this] using rP k q hq
 ·intro k
  cases hk:Nat.beq s k with
  | true =>
   simp only [hk,cond_true]
   rw [jg] at hk;subst hk
   exact ⟨b,0,hv,hr⟩
  | false=>simp only [hk,cond_false];exact (Γ k).mono hl (mV k)
theorem At.NZ {T:TypeId} {r:Rep α} {x:α} (s g:Nat) (hsg:Nat.beq s g=false) (hAt:At B h0 Γ Λ F n a w) (hs:Λ s=some (bT T r x)) :
  ∃ sv,At B h0 (fun k=>bif Nat.beq s k then fJ sv else Γ k) (fun k=>bif Nat.beq g k then some (dm (dS T r x []) sv) else bif Nat.beq s k then none else Λ k) F n a w:=by
 have h1:=hAt.YK (q':=dS T r x []) s hs (fun v e ⟨b,hv,he⟩=>⟨mJ b T r x [],⟨b,[],hv,trivial,⟨List.Pairwise.nil,fun u hu=>by cases hu⟩,rfl⟩,by
  subst he
  intro c hc
  exact ⟨c,by simpa [mJ,xO,MQ] using hc,rfl,Nat.le_refl _⟩,by
  subst he
  rintro h m ⟨cs,h1,h2⟩
  exact ⟨⟨cs,h1,h2,fun u hu=>by cases hu⟩,fun u hu=>by cases hu⟩⟩)
 obtain ⟨sv,h2⟩:=h1.He (q:=dS T r x []) s g hsg (by simp [Nat.beq_refl])
 refine ⟨sv,?_⟩
 have e:(fun k=>bif Nat.beq g k then some (dm (dS T r x []) sv) else bif Nat.beq s k then none else bif Nat.beq s k then some (dS T r x []) else Λ k)=(fun k=>bif Nat.beq g k then some (dm (dS T r x []) sv) else bif Nat.beq s k then none else Λ k):=by
  funext k
  cases Nat.beq g k <;> cases Nat.beq s k <;> rfl
 rw [e] at h2
 exact h2
end
theorem TA {r:Rep α} {x:α} {T:TypeId} {ts:List dM} {Γ:Ctx} {Λ:Own} {s g:Nat} {sv:Value} (t:kH P T r) (hf:Γ s=fJ sv) (hs:Λ g=some (dm (dS T r x ts) sv)):Jc P Γ Λ (.cell s T) (fV r x):=by
 intro κ B F h a w L hst rP mV
 obtain ⟨e,hL,b,us,hv,_,_,rfl⟩:=rP g _ hs
 have h1:=mV s
 rw [hf] at h1
 have h1:a.gt s=sv:=h1
 obtain ⟨⟨cs,hb,hrel,_⟩,_⟩:=Dx hst hL
 obtain ⟨c,hc,hrun⟩:=yO t (Lens.refl r) hb hrel
 refine ⟨pack r.agg c,?_,c,hc,rfl⟩
 have hv':a.tmps.getD s undef = .pointer (some ⟨b,0,none⟩):=h1.trans hv
 have hrun':(loadVar T ⟨b,0,none⟩).run P w = .ok (pack r.agg c) w:=by simpa [Instr.loadAt,Instr.sureAddr] using hrun
 simp only [resV,hv',asAddr,Sem.run_bind,Sem.run_pure,Result.andThen_ok,hrun']
theorem bM {T:TypeId} {r:Rep α} {y:α} {ts:List dM} {g:Nat} {sv:Value} {x:Operand} (ho:o.op = .nilCheck x) (hx:dD N x (fJ sv)):fC P o N [(g,dm (dS T r y ts) sv)] (fJ sv) []:=by
 intro κ B F L h a w hst hn hk _ next Q hnext _
 obtain ⟨e,_,b,us,hv,_⟩:=hk.1
 have hx':a.eval x=sv:=hx h a hn
 unfold Oper.qB
 have:(execOp a.eval o).run P w = .ok (.value sv) w:=by simp [execOp,ho,hx',hv]
 rw [this]
 exact hnext _ h w L (nO.refl h) rfl hst nY
theorem xI {T T':TypeId} {r:Rep α} {y:α} {ts:List dM} {g:Nat} {sv:Value} {x:Operand} (ho:o.op = .box T x) (hx:dD N x (fJ sv)):fC P o N [(g,dm (dS T' r y ts) sv)] (bQ Rep.fM sv) []:=by
 intro κ B F L h a w hst hn hk hdn next Q hnext hns
 obtain ⟨e,hL,hq⟩:=hk.1
 obtain ⟨b,us,hv,_⟩:=hq
 have h1:fC P { o with op:=.box T (.const sv) } N [] (bQ Rep.fM sv) []:=jv (T:=T) (r:=Rep.fM) (y:=sv) rfl (fun h a n=>⟨[sv],⟨rfl,by rw [hv];rfl⟩,rfl⟩)
 have hx':a.eval x=sv:=hx h a hn
 have h2:=h1 κ B F L h a w hst hn trivial hdn next Q hnext (fun v h' w' L' a1 a2 a3 a4=>hnext v h' w' L' a1 a2 a3 (fun s=>by
  have:=a4 s
  cases hl:rY (full ([]:I5) o.dst) s with
  | some e=>rw [hl] at this;cases e <;> exact this
  | none =>
   rw [hl] at this
   rcases this with h | ⟨q,hm,_⟩
   ·exact h
   ·cases hm))
 unfold Oper.qB at h2 ⊢
 have e1:(execOp a.eval { o with op:=Op.box T (.const sv) }).run P w=(execOp a.eval o).run P w:=by
  simp only [execOp,ho,hx'];rfl
 rw [e1] at h2
 exact h2
end Go.KB
namespace Go.KB
variable {P:Program} {o:Oper} {N:List (Nat×bD)} {α β:Type}
def Rep.PZ:Rep (Option Nat):=Rep.scalar (fun x=>match x with | some f=>.func (.func f) #[] #[] | none=>.nilFunc) none (by intro x;cases x <;> rfl)
theorem Oj {h:H} {v:Value} {x:Option Nat}:Rep.PZ.val h v x↔v=(match x with | some f=>.func (.func f) #[] #[] | none=>.nilFunc) :=
 ⟨fun ⟨_,e,e'⟩=>by rw [e',show _=_ from e];rfl,fun e=>⟨_,rfl,e⟩⟩
theorem GU {f:Nat}:dD N (.func f) (fV Rep.PZ (some f)):=fun _ _ _=>Oj.2 rfl
theorem opdNum {f:Nat} {x:Operand} (hx:dD N x (fV Rep.PZ (some f))):dD N x (jW f []):=fun h a n=>⟨[],Oj.1 (hx h a n),rfl,fun j g u hg=>by simp at hg⟩
theorem ZY {f:Nat} {n:Option Nat} {x:Operand} (hf:n=some f) (hx:dD N x (fV Rep.PZ n)):dD N x (jW f []):=by subst hf;exact opdNum hx
theorem opd9 {s:Nat} {f:bD} {q0 q1 q2 q3 q4 q5 q6 q7 q8:Nat×bD}:dD (q0 :: q1 :: q2 :: q3 :: q4 :: q5 :: q6 :: q7 :: q8 :: (s,f) :: N) (.tmp s) f:=fun _ _ n=>n.2.2.2.2.2.2.2.2.2.1
theorem opd10 {s:Nat} {f:bD} {q0 q1 q2 q3 q4 q5 q6 q7 q8 q9:Nat×bD}:dD (q0 :: q1 :: q2 :: q3 :: q4 :: q5 :: q6 :: q7 :: q8 :: q9 :: (s,f) :: N) (.tmp s) f:=fun _ _ n=>n.2.2.2.2.2.2.2.2.2.2.1
theorem opd11 {s:Nat} {f:bD} {q0 q1 q2 q3 q4 q5 q6 q7 q8 q9 q10:Nat×bD}:dD (q0 :: q1 :: q2 :: q3 :: q4 :: q5 :: q6 :: q7 :: q8 :: q9 :: q10 :: (s,f) :: N) (.tmp s) f:=fun _ _ n=>n.2.2.2.2.2.2.2.2.2.2.2.1
def Rep.Hr (r:Rep α):Rep (List α) where
 sz:=1
 agg:=false
 rel:=fun h cs xs=>∃ v,cs=[v]∧y9 r h v xs∧(xs=[]→v = .slice none 0 0)
 zero:=[]
 zc:=[.slice none 0 0]
 one:=fun _=>rfl
 len:=fun ⟨v,e,_⟩=>by rw [e];rfl
 flat:=fun ⟨v,e,k,_⟩ c hc=>(Rep.slice r).flat ⟨v,e,k⟩ c hc
 mono:=fun hl ⟨v,e,k,z⟩=>⟨v,e,k.mono hl,z⟩
 xq:=fun _=>⟨_,rfl,.inl ⟨⟨none,rfl⟩,rfl⟩,fun _=>rfl⟩
theorem opdE {r:Rep α} {x:Operand} {xs:List α} (hx:dD N x (fV (Rep.Hr r) xs)):dD N x (fV (Rep.slice r) xs):=fun h a n=>by
 obtain ⟨cs,⟨v,e,k,_⟩,e'⟩:=hx h a n
 exact ⟨cs,⟨v,e,k⟩,e'⟩
theorem TB {r:Rep α}:dD N (.const (.slice none 0 0)) (fV (Rep.Hr r) []):=fun _ _ _=>⟨_,⟨_,rfl,.inl ⟨⟨none,rfl⟩,rfl⟩,fun _=>rfl⟩,rfl⟩
theorem Oh {r:Rep α} {x:Operand} {y:α} {l:List α} (hx:dD N x (fV (Rep.slice r) (y :: l))):dD N x (fV (Rep.Hr r) (y :: l)):=fun h a n=>by
 obtain ⟨cs,⟨v,e,k⟩,e'⟩:=hx h a n
 exact ⟨cs,⟨v,e,k,fun hx=>by cases hx⟩,e'⟩
theorem Xd {T T' E:TypeId} {r:Rep α} {x:Operand} {xs:List α} (hT:P.underlying T=some (.slice E)) (ho:o.op = .binOp .neq T x (.const (.slice none 0 0)) T') (hx:dD N x (fV (Rep.Hr r) xs)):fC P o N [] (fV Rep.bool (!xs.isEmpty)) [] :=
 fC.rM fun h a w _ n=>by
  have hg:∀ v,eqGuard .neq T x (.const (.slice none 0 0)) v (.slice none 0 0)=pure ():=by
   intro v;unfold eqGuard;cases v <;> rfl
  obtain ⟨cs,⟨v,e,k,z⟩,e'⟩:=hx h a n
  have hv:a.eval x=v:=by rw [show a.eval x=pack (Rep.Hr r).agg cs from e',e];rfl
  have fin:∀ p l c b,v = .slice p l c→(!xs.isEmpty) = !p.isNone→∃ u,(execOp a.eval o).run P w = .ok (.value u) w∧(fV Rep.bool (!xs.isEmpty)).p h b u:=by
   intro p l c b hp hb
   refine ⟨.bool (!p.isNone),?_,kW.2 (by rw [hb])⟩
   simp only [execOp,ho,hv,hp]
   show ((do eqGuard _ _ _ _ _ (.slice none 0 0);binOp .neq T (.slice _ _ _) (.slice none 0 0)) >>= fun v=>pure (Next.value v)).run P w=_
   rw [hg];simp only [pure_bind,Sem.run_bind,Go.run_neq_slice_nil w T E p l c hT,Result.andThen_ok,Sem.run_pure]
  rcases k with ⟨_,rfl⟩ | ⟨b,off,cap,hv2,hc,_⟩
  ·exact fin none 0 0 _ (z rfl) rfl
  ·cases xs with
   | nil=>exact fin none 0 0 _ (z rfl) rfl
   | cons y l=>exact fin _ _ _ _ hv2 rfl
theorem sD {T T' T'':TypeId} {r:Rep α} {y:α} {ts:List dM} {g:Nat} {sv:Value} {x:Operand} (hT:P.underlying T=some (.pointer (P.pointee T))) (ho:o.op = .binOp .eql T x (.const (.pointer none)) T') (hx:dD N x (fJ sv)):fC P o N [(g,dm (dS T'' r y ts) sv)] (fV Rep.bool false) []:=by
 intro κ B F L h a w hst hn hk _ next Q hnext _
 obtain ⟨e,_,b,us,hv,_⟩:=hk.1
 have hx':a.eval x = .pointer (some ⟨b,0,none⟩):=(hx h a hn:a.eval x=sv).trans hv
 have hg:∀ p,(eqGuard .eql T x (.const (.pointer none)) (.pointer p) (.pointer none)).run P w = .ok () w:=by
  intro p;unfold eqGuard;rfl
 unfold Oper.qB
 have:(execOp a.eval o).run P w = .ok (.value (.bool false)) w:=by
  simp only [execOp,ho,hx',show a.eval (.const (.pointer none)) = .pointer none from rfl,hg,Sem.run_bind,Result.andThen_ok,Sem.run_pure,run_eql_pointer_nil w T (some ⟨b,0,none⟩) hT];rfl
 rw [this]
 exact hnext _ h w L (nO.refl h) (kW.2 rfl) hst nY
def V6:List (Nat×gQ)→List Po→List Po→Prop
 | (_,q0) :: r,p :: ps,p' :: ps'=>(p'=p∨(p = .keep∧p' = .to q0))∧V6 r ps ps'
 | [],[],[]=>True
 | _,_,_=>False
theorem V6.ok {E:Nat→Option jh} {g:Nat→Value}:∀ {pre:List (Nat×gQ)} {ps ps':List Po},V6 pre ps ps'→Gt pre ps E g→Gt pre ps' E g:=by
 intro pre
 induction pre with
 | nil=>intro ps ps' h _;cases ps <;> cases ps' <;> first | trivial | exact h.elim
 | cons x r ih =>
  obtain ⟨k,q0⟩:=x
  intro ps ps' h hp
  cases ps with
  | nil=>exact h.elim
  | cons p ps=>cases ps' with
   | nil=>exact h.elim
   | cons p' ps' =>
    obtain ⟨h1,h2⟩:=h
    refine ⟨?_,ih h2 hp.2⟩
    rcases h1 with rfl | ⟨rfl,rfl⟩
    ·exact hp.1
    ·exact hp.1
theorem iH.post {f:FuncId} {args:List bD} {pre:List (Nat×gQ)} {ps ps':List Po} {own:Option gQ} {res:bD} (h:iH P f args pre ps own res) (hw:V6 pre ps ps'):iH P f args pre ps' own res:=by
 intro κ B L h0 w vs E hst hl hpre hargs
 exact (h κ B L h0 w vs E hst hl hpre hargs).mono fun e w' ⟨u,h',E',a,b,c,d,x,y⟩=>⟨u,h',E',a,b,c,hw.ok d,x,y⟩
theorem Xl {ρ:Option Nat} {ops ops':Array Oper} {Q:Exit→Act→World→Prop} {i j:Nat} {K:Act→World→Prop} {a:Act} {w:World} (h:ops'[i]? = ops[j]?) (hg:∀ o,ops[j]? = some o→o.guard=none)
  (hh:wpOpIn (MJ ρ) 0 P ops' Q i K a w):wpOpIn (MJ ρ) 0 P ops Q j K a w:=by
 unfold wpOpIn at *
 rw [h] at hh
 cases hj:ops[j]? with
 | none=>rw [hj] at hh;exact hh
 | some o =>
  rw [hj] at hh
  simp only [] at hh ⊢
  have w1:∀ f,Region.wanted o f=true:=fun f=>by simp [Region.wanted,hg o hj]
  rw [w1] at hh ⊢
  exact hh
def J4:List Oper→Bool
 | []=>true
 | o :: r=>o.guard.isNone&&J4 r
theorem P7:∀ {l:List Oper},J4 l=true→∀ {i:Nat} {o:Oper},l[i]? = some o→o.guard=none:=by
 intro l
 induction l with
 | nil=>intro _ i o h;simp at h
 | cons x r ih =>
  intro h i o hi
  simp only [J4,Bool.and_eq_true] at h
  cases i with
  | zero=>simp at hi;subst hi;simpa using h.1
  | succ i=>exact ih h.2 (by simpa using hi)
section
variable {ρ:Option Nat} {κ:Type} {B:Base} {h0:H} {Γ:Ctx} {Λ:Own} {F:κ→Option jh} {n:Nat} {ops:Array Oper} {a:Act} {w:World} {Q:Exit→Act→World→Prop}
theorem jJj {id:Nat} (m:Nat) (hm:ops.size=m) (h:wpOpsIn (MJ ρ) 0 P ops Q (List.range' 0 m) a w):(Code.region id ops false).qB ρ P Q a w:=by
 subst hm
 refine wpIn_region ?_
 rwa [List.range_eq_range']
theorem opsEnd {i:Nat} (h:Q .normal a w):wpOpsIn (MJ ρ) 0 P ops Q (List.range' i 0) a w:=h
theorem V3 (i k m':Nat) {m:Nat} (hm:m=k+m') (sp:List OS) (l₀ m₀:List Nat) (hAt:At B h0 Γ Λ F n a w)
  (En:MK P sp ((ops.toList.drop i).take k) Γ Λ ((ops.toList.drop i).take k) sp)
  (uH:(chk Γ Λ false ((ops.toList.drop i).take k) sp&&Dh n ((ops.toList.drop i).take k)&&J4 ops.toList&&Nat.ble (i+k) ops.toList.length)=true)
  (hnext:∀ a w,At B h0 (GR (GN (G7 Γ ((ops.toList.drop i).take k) sp) l₀)) (Ej (E8 (Di Λ ((ops.toList.drop i).take k) sp) m₀)) F n a w→wpOpsIn (MJ ρ) 0 P ops Q (List.range' (i+k) m') a w) :
  wpOpsIn (MJ ρ) 0 P ops Q (List.range' i m) a w:=by
 simp only [Bool.and_eq_true,Nat.ble_eq] at uH
 obtain ⟨⟨⟨hc,hs⟩,hng⟩,hle⟩:=uH
 have EN:=F7 hs
 generalize hl:(ops.toList.drop i).take k=ol at *
 have hlen:=(Iq _ _ En).1
 have hk:ol.length=k:=by rw [← hl,List.length_take,List.length_drop];omega
 have hat:∀ j,j<k→ol.toArray[j]? = ops[i+j]?:=by
  intro j hj
  rw [← hl]
  simp only [List.getElem?_toArray,List.getElem?_take,hj,if_true,List.getElem?_drop,Array.getElem?_toList]
 have key:∀ r j a w,j+r=k→J B h0 Γ Λ F n ol sp (fun x=>Nat.blt x j) a w→wpOpsIn (MJ ρ) 0 P ops Q (List.range' (i+j) (r+m')) a w:=by
  intro r
  induction r with
  | zero =>
   intro j a w hj hJ
   have hjk:j=k:=by omega
   subst hjk
   rw [Nat.zero_add]
   refine hnext a w ((Yh (ops:=ol.toArray) hlen hJ ?_).pick _ _)
   intro j' o hj'
   have:j'<ol.length:=by rw [zo] at hj';exact (List.getElem?_eq_some_iff.1 hj').1
   rw [Nat.blt_eq];omega
  | succ r ih =>
   intro j a w hj hJ
   rw [show r+1+m'=(r+m')+1 by omega,List.range'_succ,wpOpsIn_cons]
   have hjl:j<ol.length:=by omega
   have hi:sZ ol j=some ol[j]:=by rw [zo];simp [hjl]
   refine wpOpIn_mono (K:=J B h0 Γ Λ F n ol sp (fun x=>bif Nat.beq x j then true else Nat.blt x j)) ?_ (Xl (hat j (by omega)) (fun o ho=>P7 hng (by rwa [Array.getElem?_toList])) (QW (ops:=ol.toArray) (draw:=false) En hc EN hi ?_ ?_ ?_ ?_ hJ))
   ·intro a w hJ'
    refine ih (j+1) a w (by omega) (Ir (fun x o _=>?_) hJ')
    cases hb:Nat.beq x j with
    | true=>rw [jg] at hb;subst hb;simp [Nat.blt_eq]
    | false =>
     have:x≠j:=fun e=>by rw [jg.2 e] at hb;cases hb
     simp only [cond_false]
     rw [Bool.eq_iff_iff,Nat.blt_eq,Nat.blt_eq];omega
   ·rw [Bool.eq_false_iff,Ne,Nat.blt_eq];omega
   ·intro x hx;simpa [numOf] using hx
   ·intro x o' _ hx
    simp only [numOf,cond_false,Nat.blt_eq] at hx
    rw [Bool.eq_false_iff,Ne,Nat.blt_eq];omega
   ·intro x o' _ hx y hy
    simp only [numOf,cond_false,Nat.blt_eq] at hx hy ⊢
    omega
 rw [hm]
 exact key k 0 a w (by omega) (Ir (fun j o _=>by rw [eq_comm,Bool.eq_false_iff,Ne,Nat.blt_eq];omega) (QX hAt _ sp))
end
def Rw:List gQ→KE→Prop
 | q :: r,p :: l=>q undef p.2∧Rw r l
 | [],[]=>True
 | _,_=>False
def jQ {S:Type} (mk:S→Value→List gQ):gQ:=fun v e=>∃ (s:S) (l:KE),Rw (mk s v) l∧Gu l=true∧GV l∧e=sW l
def TJ:List Nat→List gQ→List (Nat×gQ)
 | k :: ks,q :: r=>(k,q) :: TJ ks r
 | _,_=>[]
def Rx:List Nat→KE→KE
 | k :: ks,p :: l=>(k,p.2) :: Rx ks l
 | _,_=>[]
def YL:List gQ→Prop
 | q :: r=>Gh q∧YL r
 | []=>True
theorem Ol:∀ {l:KE} {ks:List Nat} {p:Nat×jh},p ∈ Rx ks l→∃ k,(k,p.2) ∈ l:=by
 intro l
 induction l with
 | nil=>intro ks p h;cases ks <;> cases h
 | cons x r ih =>
  intro ks p h
  cases ks with
  | nil=>cases h
  | cons k ks =>
   rcases List.mem_cons.1 h with rfl | h
   ·exact ⟨x.1,List.mem_cons_self⟩
   ·obtain ⟨k',h'⟩:=ih h;exact ⟨k',List.mem_cons_of_mem _ h'⟩
theorem TK {l:KE} {ks:List Nat} {c} (h:c ∈ (sW (Rx ks l)).claims):c ∈ (sW l).claims:=by
 obtain ⟨p,hp,hc⟩:=List.mem_flatMap.1 h
 obtain ⟨k,hk⟩:=Ol hp
 exact List.mem_flatMap.2 ⟨_,hk,hc⟩
theorem Xm:∀ {l:KE} {ks:List Nat},GV l→GV (Rx ks l):=by
 intro l
 induction l with
 | nil=>intro ks _;cases ks <;> exact List.Pairwise.nil
 | cons x r ih =>
  intro ks h
  cases ks with
  | nil=>exact List.Pairwise.nil
  | cons k ks =>
   obtain ⟨h1,h2⟩:=List.pairwise_cons.1 h
   exact List.pairwise_cons.2 ⟨fun p hp=>let ⟨k',hk'⟩:=Ol hp;h1 (k',p.2) hk',ih h2⟩
theorem jJz {k:Nat}:∀ {qs:List gQ} {l:KE} {ks:List Nat},Rw qs l→YL qs→qs.length=ks.length →
  (VG (TJ ks qs) k=none∧FO (Rx ks l) k=none)∨∃ q e,VG (TJ ks qs) k=some q∧FO (Rx ks l) k=some e∧q undef e∧Gh q:=by
 intro qs
 induction qs with
 | nil=>intro l ks hm _ hl;cases l with
  | nil=>cases ks <;> exact .inl ⟨rfl,rfl⟩
  | cons=>exact hm.elim
 | cons q qs ih =>
  intro l ks hm hg hl
  cases l with
  | nil=>exact hm.elim
  | cons p l=>cases ks with
   | nil=>cases hl
   | cons k0 ks =>
    simp only [TJ,Rx,VG,FO]
    cases hb:Nat.beq k0 k with
    | true=>exact .inr ⟨q,p.2,rfl,rfl,hm.1,hg.1⟩
    | false=>exact ih hm.2 hg.2 (by simpa using hl)
section
variable {κ:Type} {B:Base} {h0:H} {Γ:Ctx} {Λ:Own} {F:κ→Option jh} {n:Nat} {a:Act} {w:World} {vM:Nat→Value} {pre:List (Nat×gQ)} {post:List Po}
theorem At.IB {S:Type} {mk:S→Value→List gQ} (d:Nat) (ks:List Nat) (hlen:∀ s v,(mk s v).length=ks.length) (hG:∀ s v,YL (mk s v)) (hAt:At B h0 Γ Λ F n a w) (hs:Λ d=some (jQ mk)) :
  ∃ s sv,At B h0 (fun k=>bif Nat.beq d k then fJ sv else Γ k) (fun k=>match VG (TJ ks (mk s sv)) k with | some q=>some q | none=>bif Nat.beq d k then none else Λ k) F n a w:=by
 obtain ⟨h,L,hle,hst,rP,mV,hsz,hdf⟩:=hAt
 obtain ⟨e,hL,s,l,hm,hnd,hdj,rfl⟩:=rP d _ hs
 have hst1:=hst.swap (e':=sW (Rx ks l)) hL (fun c hc=>⟨c,TK hc,rfl,Nat.le_refl _⟩) (fun p hp=>by
  obtain ⟨k,hk⟩:=Ol hp
  exact (hst.own (k:=Sum.inl d) hL).2 (k,p.2) hk)
 have hst2:=hst1.splitK (g:=d) (l:=Rx ks l) qR (Xm hdj)
 refine ⟨s,a.gt d,h,_,hle,hst2,?_,?_,hsz,hdf⟩
 ·intro k q hq
  rcases jJz (k:=k) hm (hG s _) (hlen s _) with ⟨h1,h2⟩ | ⟨q',e,h1,h2,h3,h4⟩
  ·simp only [h1] at hq
   simp only [h2]
   cases hb:Nat.beq d k with
   | true=>rw [hb] at hq;cases hq
   | false =>
    rw [hb] at hq
    have hne:k≠d:=fun x=>by rw [jg.2 x.symm] at hb;cases hb
    obtain ⟨e,h5,h6⟩:=rP k q hq
    exact ⟨e,by rw [if_neg hne];simp [set1,hne,h5],h6⟩
  ·simp only [h1] at hq
   cases hq
   simp only [h2]
   exact ⟨e,rfl,h4 _ _ _ h3⟩
 ·intro k
  cases hb:Nat.beq d k with
  | true=>simp only [cond_true,hb];rw [jg] at hb;subst hb;exact rfl
  | false=>simp only [cond_false,hb];exact mV k
def Om (Λ:Own):List Nat→List gQ→Prop
 | k :: ks,q :: r=>Λ k=some q∧Gh q∧Om Λ ks r
 | [],[]=>True
 | _,_=>False
def DF (ks:List Nat):List (Nat×gQ)→Bool
 | []=>true
 | (k,_) :: r=>!(has ks k) && !(Nat.beq k 9999)&&DF ks r
theorem Ed {ks:List Nat}:∀ {l:List (Nat×gQ)},DF ks l=true→∀ k q,(k,q) ∈ l→has ks k=false∧k≠9999:=by
 intro l
 induction l with
 | nil=>intro _ k q h;cases h
 | cons x r ih =>
  intro h k q hk
  obtain ⟨k0,q0⟩:=x
  simp only [DF,Bool.and_eq_true,Bool.not_eq_true'] at h
  rcases List.mem_cons.1 hk with h1 | h1
  ·cases h1
   exact ⟨h.1.1,fun x=>by rw [jg.2 x] at h;exact absurd h.1.2 (by simp)⟩
  ·exact ih h.2 k q h1
theorem Ry {L:Nat→Option jh} (rP:NF Λ L a):∀ {ks:List Nat} {qs:List gQ},Om Λ ks qs→uP ks=true→∃ l:KE,Rw qs l∧Gu l=true∧(∀ p ∈ l,L p.1=some p.2)∧∀ k,has ks k=false→FO l k=none:=by
 intro ks
 induction ks with
 | nil=>intro qs h _;cases qs with
  | nil=>exact ⟨[],trivial,rfl,⟨(fun p hp=>absurd hp List.not_mem_nil),fun _ _=>rfl⟩⟩
  | cons=>exact h.elim
 | cons k ks ih =>
  intro qs h hn
  cases qs with
  | nil=>exact h.elim
  | cons q qs =>
   obtain ⟨h1,h2,h3⟩:=h
   simp only [uP,Bool.and_eq_true,Bool.not_eq_true'] at hn
   obtain ⟨l,g1,g2,g3,g4⟩:=ih h3 hn.2
   obtain ⟨e,he,hq⟩:=rP k q h1
   refine ⟨(k,e) :: l,⟨h2 _ _ _ hq,g1⟩,?_,?_,?_⟩
   ·simp only [Gu,g4 k hn.1,Option.isSome_none,Bool.not_false,Bool.true_and];exact g2
   ·intro p hp
    rcases List.mem_cons.1 hp with rfl | hp
    ·exact he
    ·exact g3 p hp
   ·intro k' hk'
    simp only [has,Bool.or_eq_false_iff] at hk'
    simp only [FO,hk'.1,cond_false]
    exact g4 k' hk'.2
theorem retGJ2 {fn:Func} {S:Type} {mk:S→Value→List gQ} {R:Nat} {sv:Value} (s:S) (ks:List Nat) {rv:ResultVar} {g:bD} (hr:fn.results = #[.tmp R,rv]) (hR:Γ R=fJ sv) (hks:Om Λ ks (mk s sv)) (hn:(uP ks&&DF ks pre)=true) (h1:Jc P Γ Λ rv g)
  (hA:PostA Γ Λ vM pre post) (hAt:At B h0 Γ Λ F n a w):BO P fn B h0 F vM pre post (some (QR (jQ mk))) (Cc bD.qy g) .ret a w:=by
 obtain ⟨h,L,hl,hst,rP,mV,_,hdf⟩:=hAt
 rw [Bool.and_eq_true] at hn
 obtain ⟨l,g1,g2,g3,g4⟩:=Ry rP hks hn.1
 obtain ⟨v,hv,hp⟩:=h1 _ B F h a w L hst rP mV
 have hRv:=mV R
 rw [hR] at hRv
 have hRv:a.gt R=sv:=hRv
 have hv0:(resV a.tmps (.tmp R)).run P w = .ok (a.gt R) w:=rfl
 refine fun hB=>.inl ⟨hdf.trans hB,.tuple #[a.gt R,v],?_,_,h,_,rfl,hl,hst.sW 9999 g3,hA.ok rP mV (fun k q hm=>?_),⟨sW l,if_pos rfl,a.gt R,v,rfl,s,l,by rw [hRv];exact g1,g2,J5 hst g3 g2,rfl⟩,_,_,rfl,trivial,hp⟩
 ·rw [wV];simp [hr,hv,hv0]
 ·obtain ⟨a1,a2⟩:=Ed hn.2 k q hm
  simp only [if_neg a2,g4 k a1];rfl
theorem retGJ1 {fn:Func} {S:Type} {mk:S→Value→List gQ} {R:Nat} {sv:Value} (s:S) (ks:List Nat) (hr:fn.results = #[.tmp R]) (hR:Γ R=fJ sv) (hks:Om Λ ks (mk s sv)) (hn:(uP ks&&DF ks pre)=true)
  (hA:PostA Γ Λ vM pre post) (hAt:At B h0 Γ Λ F n a w):BO P fn B h0 F vM pre post (some (jQ mk)) bD.qy .ret a w:=by
 obtain ⟨h,L,hl,hst,rP,mV,_,hdf⟩:=hAt
 rw [Bool.and_eq_true] at hn
 obtain ⟨l,g1,g2,g3,g4⟩:=Ry rP hks hn.1
 have hRv:=mV R
 rw [hR] at hRv
 have hRv:a.gt R=sv:=hRv
 have hv0:(resV a.tmps (.tmp R)).run P w = .ok (a.gt R) w:=rfl
 refine fun hB=>.inl ⟨hdf.trans hB,a.gt R,?_,_,h,_,rfl,hl,hst.sW 9999 g3,hA.ok rP mV (fun k q hm=>?_),⟨sW l,if_pos rfl,s,l,by rw [hRv];exact g1,g2,J5 hst g3 g2,rfl⟩,trivial⟩
 ·rw [wV];simp [hr,hv0]
 ·obtain ⟨a1,a2⟩:=Ed hn.2 k q hm
  simp only [if_neg a2,g4 k a1];rfl
end
theorem iR {sv sm:Value} {T T':TypeId} {r:Rep α} {ts:List dM} {s off:Nat} {x:Operand} {y:α} {get:α→Value} {set:α→Value→α} (l:Lens r Rep.FI off get set) (t:kH P T Rep.FI) (ho:o.op = .load T x) (hx:dD N x (qF sv off)) (hg:get y=sm) :
  fC P o N [(s,dm (dS T' r y ts) sv)] (fJ sm) []:=by
 subst hg
 exact fC.out (f:=fV Rep.FI (get y)) rfl (fun _ _ _ hp=>TI (z:=.map none) (hz:=rfl) hp) (dI l t ho hx)
theorem xJ {f:FuncId} {args C:List bD} {pre:List (Nat×gQ)} {post:List Po} {res:bD} {xs:List Operand} {gs:List Nat} {K:List (Nat×gQ)} {U:I5}
  (hc:iH P f (args ++ C) pre post none res) (hE:J6 P N o xs f C) (hd:qw (res :: args)=true) (uH:(FP pre gs && !(match o.dst with | some d=>has gs d | none=>false))=true)
  (hargs:wW N args xs) (hkey:vF N xs pre post gs) (hK:TL pre gs=K) (hU:IY gs post ++ Rz none o.dst=U):fC P o N K bD.qy U :=
 fC.out (f:=res) (by
  have:=oz hd res List.mem_cons_self
  rw [this];rfl) (fun _ _ _ _=>trivial) (bZ hc hE hd uH hargs hkey hK hU)
def Bj {A C R:Type} (v:Option A×C) (f:C→Option R) (g:A→C→Option R):Option R:=match v with
 | (none,e)=>f e
 | (some x,e)=>g x e
theorem spN {A C R:Type} {f:C→Option R} {g:A→C→Option R} {e:C} {r:R} (H:Bj (none,e) f g=some r):f e=some r:=H
theorem spS {A C R:Type} {f:C→Option R} {g:A→C→Option R} {x:A} {e:C} {r:R} (H:Bj (some x,e) f g=some r):g x e=some r:=H
theorem Jh {T:TypeId} {r:Rep α} {ts:List dM} {x:Operand} {y:α} {d:Nat} (hd:o.dst=some d) (ho:o.op = .box T x) (hx:dD N x (fVN r y ts)):fC P o N [] bD.qy [(d,some (dS T r y ts))]:=by
 intro κ B F L h a w hst hn _ hdn next Q hnext _
 obtain ⟨cs,hr,hv,hz⟩:=hx h a hn
 unfold Oper.qB
 have:(execOp a.eval o).run P w = .ok (.value (.pointer (some ⟨w.heap.size,0,none⟩))) (w.alloc (.cells cs.toArray T)):=by
  simp [execOp,ho,Instr.box,hv,DR hr]
 rw [this]
 refine hnext _ h _ (set1 L d (mJ w.heap.size T r y (Hu ts))) (nO.refl h) trivial (hst.zS _ d _ ?_ ⟨⟨_,zT _ _,hr,hz.at⟩,fun u hu=>by rw [(IC hu).1];trivial⟩) ?_
 ·intro c hc
  have:c ∈ (w.heap.size,0) :: MQ (Hu ts):=hc
  rw [J7] at this
  simp at this;rw [this]
 rw [hd]
 exact nP ⟨_,_,iQ (hdn d hd),IE ts,J8 _ ts,rfl⟩
theorem At.Vb {κ:Type} {B:Base} {h0:H} {Γ:Ctx} {Λ:Own} {F:κ→Option jh} {n:Nat} {a:Act} {w:World} {f:α→Value} {rv:Rep β} {l:List (α×β)} (s g:Nat) (hsg:Nat.beq s g=false) (hAt:At B h0 Γ Λ F n a w) (hs:Λ s=some (bI f rv l)) :
  ∃ sv,At B h0 (fun k=>bif Nat.beq s k then fV Rep.FI sv else Γ k) (fun k=>bif Nat.beq g k then some (dm (bI f rv l) sv) else bif Nat.beq s k then none else Λ k) F n a w:=by
 obtain ⟨sv,h,L,hle,hst,rP,mV,hsz,hdf⟩:=hAt.He s g hsg hs
 refine ⟨sv,h,L,hle,hst,rP,?_,hsz,hdf⟩
 obtain ⟨e,hL,b,hv,_⟩:=rP g (dm (bI f rv l) sv) (by simp [Nat.beq_refl])
 intro k
 have:=mV k
 cases hb:Nat.beq s k with
 | true =>
  simp only [hb,cond_true] at this ⊢
  have hg:a.gt k=sv:=this
  exact ⟨[sv],⟨rfl,by rw [hv];rfl⟩,by rw [hg];rfl⟩
 | false=>simp only [hb,cond_false] at this ⊢;exact this
theorem ZU {A:Type} {g:Bool} {a:Option A} {b v:A} (hg:¬ g=true) (h:(bif g then a else some b)=some v):b=v:=by
 cases g
 ·exact Option.some.inj h
 ·exact absurd rfl hg
theorem BB.ye {X:Type} {YE:X→jh→Prop} {x x':X} {g:Nat} {d:Option Nat} (hd:LV d g=true) (hx:x=x'):BB [(g,yE YE x)] [(g,some (yE YE x'))] d:=by
 subst hx
 intro s e h
 simp only [rY] at h
 cases hb:Nat.beq g s with
 | true =>
  rw [hb] at h;cases h
  rw [jg] at hb;subst hb
  exact ⟨fun e=>by unfold LV at hd;rw [e] at hd;simp [Nat.beq_refl] at hd,_,_,rfl,by simp,fun _ _ h=>h⟩
 | false=>rw [hb] at h;cases h
theorem opdNF:dD N (.const .nilFunc) (fV Rep.PZ none):=fun _ _ _=>Oj.2 rfl
def Jw {A R:Type} (v:A×Option Nat) (f:A→Option R) (g:A→Option R):Option R:=match v with
 | (x,none)=>f x
 | (x,some k)=>bif decide (0=k) then g x else none
theorem sjN {A R:Type} {f g:A→Option R} {x:A} {r:R} (H:Jw (x,none) f g=some r):f x=some r:=H
theorem sjS {A R:Type} {f g:A→Option R} {x:A} {k:Nat} {r:R} (H:Jw (x,some k) f g=some r):0=k∧g x=some r:=by
 unfold Jw at H
 by_cases hk:0=k
 ·simp only [hk,decide_true,cond_true] at H;exact ⟨hk,H⟩
 ·simp only [hk,decide_false,cond_false] at H;cases H
end Go.KB
namespace Go.KB
variable {P:Program} {o:Oper} {N:List (Nat×bD)} {α β ρ:Type}
def Lr:jh where
 claims:=[]
 ok:=fun _ _=>True
 mono:=fun _ x=>x
 frame:=fun _ x=>x
def UF (T:TypeId) (R:Rep (α×ρ)) (x:α) (ts:List dM) (J:ρ→jh→Prop):gQ:=fun v e=>∃ p e1 e2,dS T R (x,p) ts v e1∧J p e2∧e=Ee e1 e2∧Jy e1.claims e2.claims
def jN:ρ→jh→Prop:=fun _ e=>e=Lr
def jC (g:ρ→Value) (q:gQ) (J:ρ→jh→Prop):ρ→jh→Prop:=fun p e=>∃ e2 e3,J p e2∧q (g p) e3∧e=Ee e2 e3∧Jy e2.claims e3.claims
section
variable {κ:Type} {B:Base} {h:H} {L:Nat→Option jh} {F:κ→Option jh} {w:World}
def YM (e2:jh) (F:κ→Option jh):Option κ→Option jh
 | none=>some e2
 | some x=>F x
theorem St.Vd {s:Nat} {e1 e2:jh} (hst:St B h (Sum.elim L F) w) (hL:L s=some (Ee e1 e2)) (hd:Jy e1.claims e2.claims):St B h (Sum.elim (set1 L s e1) (YM e2 F)) w:=by
 obtain ⟨hcl,hok⟩:=hst.own (k:=.inl s) hL
 have key:∀ (k:Nat ⊕ Option κ) e,Sum.elim (set1 L s e1) (YM e2 F) k=some e→(k = .inl s∧e=e1)∨(k = .inr none∧e=e2)∨∃ k',k' ≠ .inl s∧Sum.elim L F k'=some e∧k=(match k' with | .inl k=>.inl k | .inr x=>.inr (some x)):=by
  intro k e he
  cases k with
  | inl k =>
   by_cases hk:k=s
   ·subst hk;simp only [Sum.elim_inl,set1,if_true] at he;exact .inl ⟨rfl,(Option.some.inj he).symm⟩
   ·simp only [Sum.elim_inl,set1,if_neg hk] at he;exact .inr (.inr ⟨.inl k,fun x=>hk (Sum.inl.inj x),he,rfl⟩)
  | inr x=>cases x with
   | none=>exact .inr (.inl ⟨rfl,(Option.some.inj he).symm⟩)
   | some x=>exact .inr (.inr ⟨.inr x,(fun x=>by cases x),he,rfl⟩)
 refine ⟨hst.low,hst.base,fun x=>hst.ext x,?_,?_,hst.mark,fun x i y=>hst.nf x i y⟩
 ·intro k e he
  rcases key k e he with ⟨_,rfl⟩ | ⟨_,rfl⟩ | ⟨k',_,h2,_⟩
  ·exact ⟨fun c hc=>hcl c (List.mem_append_left _ hc),hok.1⟩
  ·exact ⟨fun c hc=>hcl c (List.mem_append_right _ hc),hok.2⟩
  ·exact hst.own h2
 ·intro k k' e e' he he' hne c hc c' hc'
  rcases key k e he with ⟨rfl,rfl⟩ | ⟨rfl,rfl⟩ | ⟨k1,h1,h2,rfl⟩
  ·rcases key k' e' he' with ⟨rfl,rfl⟩ | ⟨rfl,rfl⟩ | ⟨k2,h3,h4,rfl⟩
   ·exact absurd rfl hne
   ·exact hd c hc c' hc'
   ·exact hst.vN (k:=.inl s) hL h4 (fun x=>h3 x.symm) c (List.mem_append_left _ hc) c' hc'
  ·rcases key k' e' he' with ⟨rfl,rfl⟩ | ⟨rfl,rfl⟩ | ⟨k2,h3,h4,rfl⟩
   ·exact fun x=>hd c' hc' c hc x.symm
   ·exact absurd rfl hne
   ·exact hst.vN (k:=.inl s) hL h4 (fun x=>h3 x.symm) c (List.mem_append_right _ hc) c' hc'
  ·rcases key k' e' he' with ⟨rfl,rfl⟩ | ⟨rfl,rfl⟩ | ⟨k2,h3,h4,rfl⟩
   ·exact hst.vN h2 (k':=.inl s) hL h1 c hc c' (List.mem_append_left _ hc')
   ·exact hst.vN h2 (k':=.inl s) hL h1 c hc c' (List.mem_append_right _ hc')
   ·exact hst.vN h2 h4 (fun x=>hne (by rw [x])) c hc c' hc'
theorem St.joinF {s:Nat} {e1 e2:jh} (hst:St B h (Sum.elim L (YM e2 F)) w) (hL:L s=some e1):St B h (Sum.elim (set1 L s (Ee e1 e2)) F) w∧Jy e1.claims e2.claims:=by
  have hN:Sum.elim L (YM e2 F) (.inr none)=some e2:=rfl
  have hd:Jy e1.claims e2.claims:=fun c hc c' hc'=>hst.vN (k:=.inl s) hL hN (fun x=>by cases x) c hc c' hc'
  have key:∀ (k:Nat ⊕ κ) e,Sum.elim (set1 L s (Ee e1 e2)) F k=some e→(k = .inl s∧e=Ee e1 e2)∨(k ≠ .inl s∧∃ k',k' ≠ .inl s∧k' ≠ .inr none∧Sum.elim L (YM e2 F) k'=some e∧k'=(match k with | .inl k=>.inl k | .inr x=>.inr (some x))):=by
    intro k e he
    cases k with
    | inl k =>
      by_cases hk:k=s
      · subst hk;simp only [Sum.elim_inl,set1,if_true] at he;exact .inl ⟨rfl,(Option.some.inj he).symm⟩
      · simp only [Sum.elim_inl,set1,if_neg hk] at he;exact .inr ⟨fun x=>hk (Sum.inl.inj x),.inl k,fun x=>hk (Sum.inl.inj x),(fun x=>by cases x),he,rfl⟩
    | inr x=>exact .inr ⟨(fun x=>by cases x),.inr (some x),(fun x=>by cases x),(fun x=>by cases x),he,rfl⟩
  refine ⟨⟨hst.low,hst.base,fun x=>hst.ext x,?_,?_,hst.mark,fun x i y=>hst.nf x i y⟩,hd⟩
  · intro k e he
    rcases key k e he with ⟨rfl,rfl⟩ | ⟨_,k',_,_,h2,_⟩
    · refine ⟨fun c hc => ?_, (hst.own (k := .inl s) hL).2, (hst.own hN).2⟩
      rcases List.mem_append.1 hc with hc | hc
      · exact (hst.own (k:=.inl s) hL).1 c hc
      · exact (hst.own hN).1 c hc
    · exact hst.own h2
  · intro k k' e e' he he' hne c hc c' hc'
    rcases key k e he with ⟨rfl,rfl⟩ | ⟨g1,k1,h1,h1',h2,e1'⟩
    · rcases key k' e' he' with ⟨rfl,rfl⟩ | ⟨g3,k2,h3,h3',h4,_⟩
      · exact absurd rfl hne
      · rcases List.mem_append.1 hc with hc | hc
        · exact hst.vN (k:=.inl s) hL h4 (fun x=>h3 x.symm) c hc c' hc'
        · exact hst.vN hN h4 (fun x=>h3' x.symm) c hc c' hc'
    · rcases key k' e' he' with ⟨rfl,rfl⟩ | ⟨g3,k2,h3,h3',h4,e2'⟩
      · rcases List.mem_append.1 hc' with hc' | hc'
        · exact hst.vN h2 (k':=.inl s) hL h1 c hc c' hc'
        · exact hst.vN h2 hN h1' c hc c' hc'
      · refine hst.vN h2 h4 (fun x => hne ?_) c hc c' hc'
        rw [e1',e2'] at x
        cases k <;> cases k' <;> simp_all
end
theorem D6 {T T':TypeId} {R:Rep (α×ρ)} {rw':Rep Value} {ts:List dM} {s d off:Nat} {x0:Operand} {x:α} {J:ρ→jh→Prop} {q:gQ} {g:ρ→Value} {set:ρ→Value→ρ}
  (l:Lens R rw' off (fun y=>g y.2) (fun y z=>(y.1,set y.2 z))) (t:kH P T rw') (hraw:rw'.sz=1∧rw'.agg=false) (hap:apartB off 1 ts=true) (hsd:Nat.beq s d=false) (hd:o.dst=none) (ho:o.op = .store T x0 (.tmp d)) (hx:dD N x0 (BD s off))
  (hq:∀ h v e,q v e→rw'.rel h [v] v) (hJ:∀ p v e,J p e→J (set p v) e) (hg:∀ p v,g (set p v)=v):fC P o N [(s,UF T' R x ts J),(d,q)] bD.qy [(s,some (UF T' R x ts (jC g q J))),(d,none)]:=by
 have hne:s≠d:=fun x=>by rw [jg.2 x] at hsd;cases hsd
 intro κ B F L h a w hst hn hk _ next Q hnext _
 obtain ⟨b,hdv,hxv⟩:=hx h a hn
 obtain ⟨e,hL,p,e1,e2,hbx,hJ2,rfl,hdj0⟩:=hk.1
 obtain ⟨b',us,hv',hta,Ls,rfl⟩:=hbx
 obtain ⟨e3,hL2,hq2⟩:=hk.2.1
 have hL2:L d=some e3:=hL2
 have hq2:q (a.gt d) e3:=hq2
 have hd':a.gt s = .pointer (some ⟨b,0,none⟩):=hdv
 rw [hd'] at hv';cases hv'
 have Ve:=hst.Vd hL hdj0
 obtain ⟨p0,c,q',hp,hrun,hcl,hmem,hrel,hget,hst'⟩:=Ef l t Ve qR Ls (List.Sublist.refl us) (fun u hu=>by
  obtain ⟨t,ht,e⟩:=hta.offs u hu;rw [e,hraw.1];exact BX hap t ht) (c':=[a.gt d]) (z:=a.gt d) (hq h _ _ hq2)
 rw [Fg] at hst'
 obtain ⟨hst1,hdj1⟩:=hst'.joinF qR
 rw [Fg] at hst1
 unfold Oper.qB
 have:(execOp a.eval o).run P w = .ok .skip (w.setRow b (p0 ++ [a.gt d] ++ q').toArray):=by
  have hrun':(Instr.storeAt T (.pointer (some ⟨b,off,none⟩)) (a.eval (.tmp d))).run P w = .ok () (w.setRow b (p0 ++ [a.gt d] ++ q').toArray):=by
   have e:pack rw'.agg [a.gt d]=a.gt d:=by rw [hraw.2];rfl
   rw [e] at hrun;exact hrun
  simp only [execOp,ho,hxv,Sem.run_bind,hrun',Result.andThen_ok,Sem.run_pure]
 rw [this]
 have hLd:set1 L s (Ee (mJ b T' R (x,set p (a.gt d)) us) e2) d=some e3:=by simp [set1,Ne.symm hne,hL2]
 have hd13:Jy (Ee (mJ b T' R (x,set p (a.gt d)) us) e2).claims e3.claims:=hst1.vN (k:=Sum.inl s) (k':=Sum.inl d) qR hLd (fun x=>hne (Sum.inl.inj x))
 have hj:=hst1.Eg (e:=Ee (mJ b T' R (x,set p (a.gt d)) us) (Ee e2 e3)) qR hLd (fun c hc=>by
  rcases List.mem_append.1 hc with hc | hc
  ·exact .inl (List.mem_append_left _ hc)
  ·rcases List.mem_append.1 hc with hc | hc
   ·exact .inl (List.mem_append_right _ hc)
   ·exact .inr hc) ⟨(hst1.own (k:=Sum.inl s) qR).2.1,(hst1.own (k:=Sum.inl s) qR).2.2,(hst1.own (k:=Sum.inl d) hLd).2⟩
 have hL':Eg (set1 L s (Ee (mJ b T' R (x,set p (a.gt d)) us) e2)) s d (Ee (mJ b T' R (x,set p (a.gt d)) us) (Ee e2 e3))=Eg L s d (Ee (mJ b T' R (x,set p (a.gt d)) us) (Ee e2 e3)):=by
  funext k;unfold Eg set1
  by_cases h1:k=d
  ·rw [if_pos h1,if_pos h1]
  ·rw [if_neg h1,if_neg h1]
   by_cases h2:k=s
   ·rw [if_pos h2,if_pos h2]
   ·rw [if_neg h2,if_neg h2,if_neg h2]
 rw [hL'] at hj
 refine hnext undef h _ _ (nO.refl h) trivial hj ?_
 rw [hd]
 refine Qv hne ⟨set p (a.gt d),_,Ee e2 e3,⟨b,us,hd',hta,Ls,rfl⟩,⟨e2,e3,hJ _ _ _ hJ2,by rw [hg];exact hq2,rfl,?_⟩,rfl,?_⟩
 ·exact fun c hc c' hc'=>hd13 c (List.mem_append_right _ hc) c' hc'
 ·intro c hc c' hc'
  rcases List.mem_append.1 hc' with hc' | hc'
  ·exact hdj1 c hc c' hc'
  ·exact hd13 c (List.mem_append_left _ hc) c' hc'
section
variable {κ:Type} {B:Base} {h0:H} {Γ:Ctx} {Λ:Own} {F:κ→Option jh} {n:Nat} {a:Act} {w:World}
theorem At.toBx {T:TypeId} {rep:Rep α} {R:Rep (α×ρ)} {x:α} (s:Nat) (hin:∀ h cs,rep.rel h cs x→∃ p,R.rel h cs (x,p)) (hAt:At B h0 Γ Λ F n a w) (hs:Λ s=some (bT T rep x)) :
  At B h0 Γ (fun k=>bif Nat.beq s k then some (UF T R x [] jN) else Λ k) F n a w:=by
 obtain ⟨h,L,hle,hst,rP,mV,hsz,hdf⟩:=hAt
 obtain ⟨e,hL,b,hv,rfl⟩:=rP s _ hs
 obtain ⟨cs,hb,hr⟩:=Jd hst hL
 obtain ⟨p,hp⟩:=hin h cs hr
 have hst':=hst.swap (e':=Ee (mJ b T R (x,p) []) Lr) hL (fun c hc=>⟨c,by simpa [Ee,mJ,xO,MQ,Lr] using hc,rfl,Nat.le_refl _⟩) ⟨⟨⟨cs,hb,hp,fun u hu=>by cases hu⟩,fun u hu=>by cases hu⟩,trivial⟩
 refine ⟨h,_,hle,hst',?_,mV,hsz,hdf⟩
 intro k q hq
 cases hk:Nat.beq s k with
 | true =>
  simp only [hk,cond_true] at hq
  cases hq
  rw [jg] at hk;subst hk
  exact ⟨_,qR,p,_,_,⟨b,[],hv,trivial,⟨List.Pairwise.nil,fun u hu=>by cases hu⟩,rfl⟩,rfl,rfl,fun c hc c' hc'=>by cases hc'⟩
 | false =>
  simp only [hk,cond_false] at hq
  obtain ⟨e,he,hqe⟩:=rP k q hq
  have:k≠s:=fun x=>by rw [jg.2 x.symm] at hk;cases hk
  exact ⟨e,by simp [set1,this,he],hqe⟩
theorem At.congrO {Λ':Own} (h:∀ k,Λ k=Λ' k) (hAt:At B h0 Γ Λ F n a w):At B h0 Γ Λ' F n a w:=by rw [← funext h];exact hAt
theorem At.V7 {s g:Nat} {Q:gQ} {P1 P2:Value→jh→Prop} (hsg:Nat.beq s g=false) (hAt:At B h0 Γ Λ F n a w) (hs:Λ s=some Q) (hQ:∀ v e,Q v e→∃ e1 e2,P1 v e1∧P2 v e2∧e=Ee e1 e2∧Jy e1.claims e2.claims) (h2:∀ v v' e,P2 v e→P2 v' e) :
  At B h0 Γ (fun k=>bif Nat.beq s k then some P1 else bif Nat.beq g k then some P2 else Λ k) F n a w:=by
 obtain ⟨h,L,hle,hst,rP,mV,hsz,hdf⟩:=hAt
 obtain ⟨e,hL,hq⟩:=rP s _ hs
 obtain ⟨e1,e2,k1,k2,rfl,hd⟩:=hQ _ _ hq
 have hne:s≠g:=fun x=>by rw [jg.2 x] at hsg;cases hsg
 obtain ⟨_,o1,o2⟩:=hst.own (k:=Sum.inl s) hL
 have hst':=hst.split2 (d:=g) (e1:=e1) (e2:=e2) hL hne (fun c hc=>List.mem_append_left _ hc) (fun c hc=>List.mem_append_right _ hc) hd o1 o2
 refine ⟨h,_,hle,hst',?_,mV,hsz,hdf⟩
 intro k q hq
 cases hk:Nat.beq s k with
 | true =>
  simp only [hk,cond_true] at hq
  cases hq
  rw [jg] at hk;subst hk
  exact ⟨e1,by simp [set1,hne],k1⟩
 | false =>
  simp only [hk,cond_false] at hq
  cases hk2:Nat.beq g k with
  | true =>
   simp only [hk2,cond_true] at hq
   cases hq
   rw [jg] at hk2;subst hk2
   exact ⟨e2,by simp [set1],h2 _ _ _ k2⟩
  | false =>
   simp only [hk2,cond_false] at hq
   obtain ⟨e,he,hqe⟩:=rP k q hq
   have h3:k≠s:=fun x=>by rw [jg.2 x.symm] at hk;cases hk
   have h4:k≠g:=fun x=>by rw [jg.2 x.symm] at hk2;cases hk2
   exact ⟨e,by simp [set1,h3,h4,he],hqe⟩
def blob (J:ρ→jh→Prop) (p:ρ):gQ:=fun _ e=>J p e
theorem At.VZ {T:TypeId} {R:Rep (α×ρ)} {x:α} {ts:List dM} {J:ρ→jh→Prop} (s g:Nat) (hsg:Nat.beq s g=false) (hAt:At B h0 Γ Λ F n a w) (hs:Λ s=some (UF T R x ts J)) :
  ∃ p,At B h0 Γ (fun k=>bif Nat.beq s k then some (dS T R (x,p) ts) else bif Nat.beq g k then some (blob J p) else Λ k) F n a w:=by
 have hAt0:=hAt
 obtain ⟨h,L,hle,hst,rP,mV,hsz,hdf⟩:=hAt
 obtain ⟨e,hL,p,e1,e2,h1,h2,he,hd⟩:=rP s _ hs
 have hX:At B h0 Γ (fun k=>bif Nat.beq s k then some (fun v e'=>v=a.gt s∧e'=e) else Λ k) F n a w:=by
  refine ⟨h,L,hle,hst,?_,mV,hsz,hdf⟩
  intro k q hq
  cases hk:Nat.beq s k with
  | true=>simp only [hk,cond_true] at hq;cases hq;rw [jg] at hk;subst hk;exact ⟨e,hL,rfl,rfl⟩
  | false=>simp only [hk,cond_false] at hq;exact rP k q hq
 refine ⟨p,At.congrO (fun k=>?_) (hX.V7 (Q:=fun v e'=>v=a.gt s∧e'=e) (P1:=dS T R (x,p) ts) (P2:=blob J p) hsg (by simp [Nat.beq_refl]) (fun v e' ⟨hv,he'⟩=>⟨e1,e2,by rw [hv];exact h1,h2,he'.trans he,hd⟩) (fun _ _ _ h=>h))⟩
 cases hk:Nat.beq s k with
 | true=>rfl
 | false=>simp only [cond_false]
theorem At.Ob {J:ρ→jh→Prop} {gf:ρ→Value} {q:gQ} {p:ρ} (g g2:Nat) (hsg:Nat.beq g g2=false) (hAt:At B h0 Γ Λ F n a w) (hs:Λ g=some (blob (jC gf q J) p)) :
  At B h0 Γ (fun k=>bif Nat.beq g k then some (blob J p) else bif Nat.beq g2 k then some (dm q (gf p)) else Λ k) F n a w :=
 hAt.V7 hsg hs (fun _ _ ⟨e2,e3,h1,h2,he,hd⟩=>⟨e2,e3,h1,h2,he,hd⟩) (fun _ _ _ h=>h)
theorem At.YG {T E1 E2:TypeId} {rep:Rep α} {R:Rep (α×Value×Value)} {q1:Rep β} {q2:Rep ρ} {x y:α} {v1 v2:Value} {ys1:List β} {ys2:List ρ} (s g1 g2:Nat) (hne:(!(Nat.beq s g1) && !(Nat.beq s g2) && !(Nat.beq g1 g2))=true) (hAt:At B h0 Γ Λ F n a w)
  (hs:Λ s=some (dS T R (x,v1,v2) [])) (h1:Λ g1=some (FM v1 E1 q1 ys1)) (h2:Λ g2=some (FM v2 E2 q2 ys2))
  (hout:∀ h cs,R.rel h cs (x,v1,v2)→(Rep.slice q1).rel h [v1] ys1→(Rep.slice q2).rel h [v2] ys2→rep.rel h cs y) :
  At B h0 Γ (fun k=>bif Nat.beq s k then some (bT T rep y) else bif Nat.beq g1 k then none else bif Nat.beq g2 k then none else Λ k) F n a w:=by
 simp only [Bool.and_eq_true,Bool.not_eq_true'] at hne
 obtain ⟨⟨n1,n2⟩,n3⟩:=hne
 have n1:s≠g1:=fun x=>by rw [jg.2 x] at n1;cases n1
 have n2:s≠g2:=fun x=>by rw [jg.2 x] at n2;cases n2
 have n3:g1≠g2:=fun x=>by rw [jg.2 x] at n3;cases n3
 obtain ⟨h,L,hle,hst,rP,mV,hsz,hdf⟩:=hAt
 obtain ⟨e,hL,b,us,hv,hta,Ls,rfl⟩:=rP s _ hs
 have hus:us=[]:=by cases us with
  | nil=>rfl
  | cons _ _=>exact hta.elim
 subst hus
 obtain ⟨eg1,hLg1,hqg1⟩:=rP g1 _ h1
 obtain ⟨eg2,hLg2,hqg2⟩:=rP g2 _ h2
 obtain ⟨h',hl,hst',hsl⟩:=hst.V8 (Sum.inl g1) (L':=Sum.elim (fun k=>if k=g1 then none else L k) F) hLg1 hqg1 (by
  intro k' e' hne he
  cases k' with
  | inr k=>exact he
  | inl k =>
   have:k≠g1:=fun x=>hne (by rw [x])
   simpa [this] using he) (by simp)
 obtain ⟨h'',hl',hst'',hsl'⟩:=hst'.V8 (Sum.inl g2) (L':=Sum.elim (fun k=>if k=g2 then none else if k=g1 then none else L k) F) (by simp [Ne.symm n3];exact hLg2) hqg2 (by
  intro k' e' hne he
  cases k' with
  | inr k=>exact he
  | inl k =>
   have:k≠g2:=fun x=>hne (by rw [x])
   simpa [this] using he) (by simp)
 have hLs:(fun k=>if k=g2 then none else if k=g1 then none else L k) s=some (mJ b T R (x,v1,v2) []):=by simp [n1,n2,hL]
 obtain ⟨⟨cs,hb,hr,hu1⟩,hu2⟩:=Dx hst'' hLs
 have hst2:=hst''.swap (e':=xO b T rep y) hLs (fun c hc=>⟨c,by simpa [mJ,xO,MQ] using hc,rfl,Nat.le_refl _⟩) ⟨cs,hb,hout _ _ hr ((Rep.slice q1).mono hl' hsl) hsl'⟩
 refine ⟨h'',_,(hle.trans hl).trans hl',hst2,?_,fun k=>(Γ k).mono (hl.trans hl') (mV k),hsz,hdf⟩
 intro k Q hq
 cases hk:Nat.beq s k with
 | true =>
  simp only [hk,cond_true] at hq
  cases hq
  rw [jg] at hk;subst hk
  exact ⟨_,qR,b,hv,rfl⟩
 | false =>
  simp only [hk,cond_false] at hq
  cases hk2:Nat.beq g1 k with
  | true=>simp only [hk2,cond_true] at hq;cases hq
  | false =>
   simp only [hk2,cond_false] at hq
   cases hk3:Nat.beq g2 k with
   | true=>simp only [hk3,cond_true] at hq;cases hq
   | false =>
    simp only [hk3,cond_false] at hq
    obtain ⟨e,he,hqe⟩:=rP k Q hq
    have h3:k≠s:=fun x=>by rw [jg.2 x.symm] at hk;cases hk
    have h4:k≠g1:=fun x=>by rw [jg.2 x.symm] at hk2;cases hk2
    have h5:k≠g2:=fun x=>by rw [jg.2 x.symm] at hk3;cases hk3
    exact ⟨e,by simp [set1,h3,h4,h5,he],hqe⟩
end
theorem Bd {T T':TypeId} {R:Rep (α×ρ)} {x:α} {ts:List dM} {J:ρ→jh→Prop} {s i off:Nat} (hf:dL P T i off) (ho:o.op = .fieldAddr T (.tmp s) i):fC P o N [(s,UF T' R x ts J)] (BD s off) []:=by
 intro κ B F L h a w hst hn hk hdn next Q hnext hns
 obtain ⟨e,hL,p,e1,e2,⟨b,us,hv,hta,Ls,rfl⟩,hJ,rfl,hd⟩:=hk.1
 have hv:a.eval (.tmp s) = .pointer (some ⟨b,0,none⟩):=hv
 unfold Oper.qB
 have:(execOp a.eval o).run P w = .ok (.value (.pointer (some ⟨b,off,none⟩))) w:=by
  simp [execOp,ho,hv,hf b 0 w]
 rw [this]
 exact hnext _ h w L (nO.refl h) ⟨b,hv,rfl⟩ hst nY
theorem MP {T T':TypeId} {R:Rep (α×ρ)} {q:Rep β} {ts:List dM} {s off:Nat} {x0 v:Operand} {x x':α} {z:β} {J:ρ→jh→Prop} {get:α→β} {set:α→β→α}
  (l:Lens R q off (fun y=>get y.1) (fun y z=>(set y.1 z,y.2))) (t:kH P T q) (hap:apartB off q.sz ts=true) (hd:o.dst=none) (ho:o.op = .store T x0 v) (hx:dD N x0 (BD s off)) (hv:dD N v (fV q z)) (hx':x'=set x z) :
  fC P o N [(s,UF T' R x ts J)] bD.qy [(s,some (UF T' R x' ts J))]:=by
 subst hx'
 intro κ B F L h a w hst hn hk _ next Q hnext _
 obtain ⟨b,hdv,hxv⟩:=hx h a hn
 obtain ⟨e,hL,p,e1,e2,hbx,hJ2,rfl,hdj0⟩:=hk.1
 obtain ⟨b',us,hv',hta,Ls,rfl⟩:=hbx
 have hd':a.gt s = .pointer (some ⟨b,0,none⟩):=hdv
 rw [hd'] at hv';cases hv'
 obtain ⟨c',hc',hvv⟩:=hv h a hn
 have Ve:=hst.Vd hL hdj0
 obtain ⟨p0,c,q',hp,hrun,hcl,hmem,hrel,hget,hst'⟩:=Ef l t Ve qR Ls (List.Sublist.refl us) (fun u hu=>by
  obtain ⟨t,ht,e⟩:=hta.offs u hu;rw [e];exact BX hap t ht) hc'
 rw [Fg] at hst'
 obtain ⟨hst1,hdj1⟩:=hst'.joinF qR
 rw [Fg] at hst1
 unfold Oper.qB
 have:(execOp a.eval o).run P w = .ok .skip (w.setRow b (p0 ++ c' ++ q').toArray):=by
  simp only [execOp,ho,hxv,hvv,Sem.run_bind,hrun,Result.andThen_ok,Sem.run_pure]
 rw [this]
 refine hnext undef h _ _ (nO.refl h) trivial hst1 ?_
 rw [hd]
 exact nP ⟨p,_,e2,⟨b,us,hd',hta,Ls,rfl⟩,hJ2,rfl,hdj1⟩
theorem Nk {g:ρ→Value} {q:gQ} {J:ρ→jh→Prop} {set:ρ→Value→ρ} {p:ρ} {v:Value} {e:jh} (hg:∀ p v,g (set p v)=g p) (hJ:∀ {e},J p e→J (set p v) e) (h:jC g q J p e):jC g q J (set p v) e:=by
 obtain ⟨e2,e3,h1,h2,h3,h4⟩:=h
 exact ⟨e2,e3,hJ h1,by rw [hg];exact h2,h3,h4⟩
theorem TF {E:TypeId} {r:Rep α} {xs:List α} {h:H} {v:Value} {e:jh} (k:dW E r xs v e):Rep.raw.rel h [v] v:=by
 rcases k with ⟨⟨base,rfl⟩,_⟩ | ⟨b,cap,rfl,_⟩ <;> exact ⟨rfl,rfl⟩
end Go.KB
namespace Go.KB
variable {P:Program} {o:Oper} {N:List (Nat×bD)} {α β:Type}
theorem ED {T E:TypeId} {r:Rep α} {s lo n:Nat} {x:Operand} {xs ys:List α} (hlo:(Nat.beq (lo+n) xs.length)=true) (hys:ys=xs.take lo ++ List.replicate n r.zero) (t:kH P E r) (hT:P.underlying T=some (.slice E)) (hd:o.dst=none) (ho:o.op = .call { callee:=.builtin .clear,args:=#[x],argTypes:=#[T] })
    (hx:dD N x (fSub s r.sz lo n)):fC P o N [(s,dW E r xs)] bD.qy [(s,some (dW E r ys))]:=by
  have hlo:lo+n=xs.length:=by simpa using hlo
  intro κ B F L h a w hst hn hk _ next Q hnext _
  obtain ⟨e,hL,hq⟩:=hk.1
  have hL:L s=some e:=hL
  have hq:dW E r xs (a.gt s) e:=hq
  have hxv:(∃ base,a.gt s = .slice base 0 0∧a.eval x = .slice base 0 0∧lo=0∧n=0)∨∃ b p L cap,a.gt s = .slice (some ⟨b,p,none⟩) L cap∧lo+n≤L∧a.eval x = .slice (some ⟨b,if cap=lo then p else p+lo * r.sz,none⟩) n (cap - lo):=hx h a hn
  unfold Oper.qB
  have hrun:∀ w',(Builtin.clear_ #[T] o.type #[a.eval x]).run P w = .ok (.tuple #[]) w'→(execOp a.eval o).run P w = .ok (.value (.tuple #[])) w':=by
    intro w' hr
    simp only [execOp,ho,resolve,invoke,builtin,Sem.run_bind,Sem.run_pure,Result.andThen_ok,List.map_toArray,List.map_cons,List.map_nil,hr]
  by_cases hn0:n=0
  · subst hn0
    have hyx:ys=xs:=by rw [hys,List.take_of_length_le (by omega)];simp
    subst hyx
    have hev:∃ base cap,a.eval x = .slice base 0 cap:=by
      rcases hxv with ⟨base,_,h2,_⟩ | ⟨b,p,L,cap,_,_,h3⟩
      · exact ⟨_,_,h2⟩
      · exact ⟨_,_,h3⟩
    obtain ⟨base,cap,hev⟩:=hev
    rw [hrun w (by rw [hev];cases base <;> simp [Builtin.clear_,run_underlying hT])]
    refine hnext _ h w L (nO.refl h) trivial hst ?_
    rw [hd]
    have:=nP (L:=L) (s:=s) (e:=e) (d:=none) (a:=a.put none (.tuple #[])) (q:=dW E r ys) hq
    rwa [Io hL] at this
  · rcases hq with ⟨⟨base',hv'⟩,rfl,rfl⟩ | ⟨b,cap,hv',hc,rfl⟩
    · simp at hlo;omega
    · rcases hxv with ⟨_,_,_,_,h4⟩ | ⟨b',p,L',cap',h1,h2,h3⟩
      · exact absurd h4 hn0
      · rw [hv'] at h1;cases h1
        obtain ⟨cs,rest,hb,hr,hlen⟩:=Jb hst hL
        rw [if_neg (by omega),Nat.zero_add] at h3
        have hzc:(pack r.agg r.zc).cells=r.zc.toArray:=vK (r.xq h)
        have hzl:(Builtin.zeroCells (pack r.agg r.zc).cells n).toList=(List.replicate n r.zc).flatten:=by rw [hzc];exact Hw r.zc n
        obtain ⟨c1,c2,rfl,hr1⟩:=hr.take lo (by omega)
        have hl1:c1.length=lo * r.sz:=by rw [hr1.len,List.length_take,Nat.min_eq_left (by omega)]
        have hlc:=hr.len
        rw [List.length_append,hl1,← hlo,Nat.add_mul] at hlc
        have hl2:c2.length=n * r.sz:=by omega
        have hZl:=ZJ r n
        generalize hZ:(List.replicate n r.zc).flatten=Z at hzl hZl
        have hone:=Vf (r:=r) n
        have Ve:=run_storeCells_at P b (lo * r.sz) E (Builtin.zeroCells (pack r.agg r.zc).cells n).toList 0 ((c1 ++ c2) ++ rest).toArray w hb (by rw [hzl,hZl];simp;omega) hone
        simp only [Nat.add_zero] at Ve
        have hnew:((c1 ++ c2) ++ rest).toArray.toList.take (lo * r.sz) ++ (Builtin.zeroCells (pack r.agg r.zc).cells n).toList ++ ((c1 ++ c2) ++ rest).toArray.toList.drop (lo * r.sz+(Builtin.zeroCells (pack r.agg r.zc).cells n).toList.length)=(c1 ++ Z) ++ rest:=by
          rw [hzl,hZl,← hl1,← hl2]
          simp [List.drop_append]
        rw [hnew] at Ve
        obtain ⟨n',rfl⟩:∃ n',n=n'+1:=⟨n - 1,by omega⟩
        rw [hrun (w.setRow b ((c1 ++ Z) ++ rest).toArray) (by rw [h3];simp [Builtin.clear_,run_underlying hT,t.zero,Ve])]
        obtain ⟨hcl,_⟩:=hst.own (k:=Sum.inl s) hL
        have hno:=(hcl (b,0) (by simp [oW])).2.2
        have hmem:=yu w b ((c1 ++ c2) ++ rest).toArray ((c1 ++ Z) ++ rest).toArray E hb
        have hyl:ys.length=xs.length:=by rw [hys];simp;omega
        refine hnext _ h _ (set1 L s (oW b E r ys cap)) (nO.refl h) trivial ?_ ?_
        · refine hst.write (Sum.inl s) (e := oW b E r xs cap) hL (b := b) (lo := 0) (by simp [oW]) hmem (fun i hi => setRow_other w b i _ hi) (by simp [World.setRow]) rfl rfl rfl ?_ um ?_
          · intro o' u hh;rw [hno o' (Nat.zero_le _)] at hh;cases hh
          · intro e' he
            rw [uo he]
            refine ⟨fun c hc=>hc,c1 ++ Z,rest,hmem,?_,?_⟩
            · rw [hys,← hZ];exact hr1.append (sN.zeros r h _)
            · rw [← hlen];simp [hZl];omega
        · rw [hd]
          exact nP (.inr ⟨b,cap,by rw [hyl];exact hv',by rw [hyl];exact hc,rfl⟩)
theorem VP {b:Bool} {l r:List α} (h:(bif b then some l else none)=some r):b=true:=by cases b with
 | true=>rfl
 | false=>cases h
theorem VQ {b:Bool} {l r:List α} (h:(bif b then some l else none)=some r):r=l:=by cases b with
 | true=>cases h;rfl
 | false=>cases h
theorem opdF {P:Program} {N:List (Nat×bD)} {ι:Type} {A:ι→List bD} {R:ι→bD} {f:FuncId} {fn:Func} (hc:∀ i,FnOk P f (A i) (R i)) (hf:P.funcs[f]? = some fn) (hb:vO fn=true):dD N (.func f) (fF P A R) :=
 fun h a _=>⟨f,fn,#[],rfl,hf,hb,fun i κ B L h' w' vs hl hst hvl hvs=>by simpa using hc i κ B L h' w' vs hst hvl hvs⟩
theorem Yp {P:Program} {N:List (Nat×bD)} {α β:Type} {r:Rep α} {q:Rep β} {φ:α→Option β} {f:FuncId} {fn:Func} (hc:∀ x y,φ x=some y→FnOk P f [fV r x] (fV q y)) (hf:P.funcs[f]? = some fn) (hb:vO fn=true):dD N (.func f) (JF P r q φ):=opdF (fun i=>hc _ _ i.2) hf hb
theorem Xc {P:Program} {o:Oper} {N:List (Nat×bD)} {q:gQ} {s d:Nat} (hsd:Nat.beq s d=false) (hd:o.dst=some d) (ho:o.op = .extract (.tmp s) 0):fC P o N [(s,NV q)] bD.qy [(s,none),(d,some q)]:=by
 intro κ B F L h a w hst hn hk hdn next Q hnext _
 obtain ⟨e,hL,x,y,z,hv,hq⟩:=hk.1
 have hne:s≠d:=fun x=>by rw [jg.2 x] at hsd;cases hsd
 have hv':a.eval (.tmp s) = .tuple #[x,y,z]:=hv
 unfold Oper.qB
 have:(execOp a.eval o).run P w = .ok (.value x) w:=by simp [execOp,ho,hv',Instr.extract]
 rw [this]
 refine hnext _ h w _ (nO.refl h) trivial (hst.mv s d) ?_
 rw [hd]
 exact G5 hne hL (by rw [iQ (hdn d hd)];exact hq)
end Go.KB
namespace Go.KB
variable {P:Program} {o:Oper} {N:List (Nat×bD)} {α β ρ:Type}
section
variable {κ:Type} {B:Base} {h0:H} {Γ:Ctx} {Λ:Own} {F:κ→Option jh} {n:Nat} {a:Act} {w:World}
theorem own_ne {s k:Nat} (h:Nat.beq s k=false):k≠s:=fun x=>by rw [jg.2 x.symm] at h;cases h
def jF (T:TypeId) (R:Rep α) (c:Value→α) (ts:List dM) (E:TypeId) (q:Rep β) (ys:List β):gQ:=fun v e=>∃ sv e1 e2,dS T R (c sv) ts v e1∧dW E q ys sv e2∧Jy e1.claims e2.claims∧e=Ee e1 e2
theorem At.Vd {T E:TypeId} {R:Rep α} {c:Value→α} {ts:List dM} {q:Rep β} {ys:List β} (s g:Nat) (hsg:Nat.beq s g=false) (hAt:At B h0 Γ Λ F n a w) (hs:Λ s=some (jF T R c ts E q ys)) :
  ∃ sv,At B h0 Γ (fun k=>bif Nat.beq s k then some (dS T R (c sv) ts) else bif Nat.beq g k then some (FM sv E q ys) else Λ k) F n a w:=by
 obtain ⟨h,L,hle,hst,rP,mV,hsz,hdf⟩:=hAt
 obtain ⟨e,hL,sv,e1,e2,h1,h2,hd,rfl⟩:=rP s _ hs
 have hne:s≠g:=fun x=>by rw [jg.2 x] at hsg;cases hsg
 obtain ⟨_,k1,k2⟩:=hst.own (k:=Sum.inl s) hL
 have hst':=hst.split2 (d:=g) (e1:=e1) (e2:=e2) hL hne (fun c hc=>List.mem_append_left _ hc) (fun c hc=>List.mem_append_right _ hc) hd k1 k2
 refine ⟨sv,h,_,hle,hst',?_,mV,hsz,hdf⟩
 intro k Q hq
 cases hk:Nat.beq s k with
 | true =>
  simp only [hk,cond_true] at hq
  cases hq
  rw [jg] at hk;subst hk
  exact ⟨e1,by simp [set1,hne],h1⟩
 | false =>
  simp only [hk,cond_false] at hq
  cases hk2:Nat.beq g k with
  | true =>
   simp only [hk2,cond_true] at hq
   cases hq
   rw [jg] at hk2;subst hk2
   exact ⟨e2,by simp [set1],h2⟩
  | false =>
   simp only [hk2,cond_false] at hq
   obtain ⟨e,he,hqe⟩:=rP k Q hq
   exact ⟨e,by simp [set1,own_ne hk,own_ne hk2,he],hqe⟩
end
theorem VW {q:Rep β} {E:TypeId} {sz:Nat} {x:Operand} (hx:dD N x NR):dD N x (fVN (Rep.slice q) [] [⟨0,E,sz⟩]):=fun h a n=>by
 have hv:a.eval x=P8:=hx h a n
 obtain ⟨cs,hr,he⟩:=opdNS (r:=q) hx h a n
 have hc:cs=[P8]:=by
  have hl:=(Rep.slice q).len hr
  obtain ⟨c,rfl⟩:∃ c,cs=[c]:=by
   cases cs with
   | nil=>cases hl
   | cons c r=>cases r with
    | nil=>exact ⟨c,rfl⟩
    | cons _ _=>cases hl
  have he':a.eval x=c:=he
  rw [← he',hv]
 subst hc
 exact ⟨_,hr,he,rfl,trivial⟩
theorem L6 {sv:Value} {T T' E:TypeId} {q:Rep β} {l1 l2:List dM} {s d sz:Nat} {x:Operand} {y:List β} (t:kH P T (Rep.slice q)) (hsd:Nat.beq s d=false) (hd:o.dst=some d) (ho:o.op = .load T x) (hx:dD N x (fJ sv)) :
  fC P o N [(s,dm (dS T' (Rep.slice q) y (l1 ++ ⟨0,E,sz⟩ :: l2)) sv)] (fV (Rep.slice q) y) [(s,some (dm (dS T' (Rep.slice q) y (l1 ++ l2)) sv)),(d,some (dN E sz))]:=by
 by_cases hb:∃ b,sv = .pointer (some ⟨b,0,none⟩)
 ·obtain ⟨b,hb⟩:=hb
  exact L8 (Lens.refl _) t hsd hd ho (fun h a n=>⟨b,hb,by rw [← hb];exact hx h a n⟩)
 ·intro κ B F L h a w hst hn hk
  obtain ⟨e,hL,b,us,hv,_⟩:=hk.1
  exact absurd ⟨b,hv⟩ hb
theorem JP {sv:Value} {T T' E:TypeId} {q:Rep β} {l1 l2:List dM} {s d sz:Nat} {x:Operand} {y zs:List β} (t:kH P T (Rep.slice q)) (hap:apartB 0 1 (l1 ++ l2)=true) (hsd:Nat.beq s d=false) (hd:o.dst=none)
  (ho:o.op = .store T x (.tmp d)) (hx:dD N x (fJ sv)) (hv:dD N (.tmp d) (fV (Rep.slice q) zs)):fC P o N [(s,dm (dS T' (Rep.slice q) y (l1 ++ l2)) sv),(d,dN E sz)] bD.qy [(s,some (dm (dS T' (Rep.slice q) zs (l1 ++ ⟨0,E,sz⟩ :: l2)) sv)),(d,none)]:=by
 by_cases hb:∃ b,sv = .pointer (some ⟨b,0,none⟩)
 ·obtain ⟨b,hb⟩:=hb
  exact JS (Lens.refl _) t hap hsd hd ho (fun h a n=>⟨b,hb,by rw [← hb];exact hx h a n⟩) hv rfl
 ·intro κ B F L h a w hst hn hk
  obtain ⟨e,hL,b,us,hv,_⟩:=hk.1
  exact absurd ⟨b,hv⟩ hb
end Go.KB
namespace Go.KB
variable {P:Program} {α β:Type}
theorem EW {f:FuncId} {fk:α→Value} {rv:Rep β} {l:List (α×β)} {sv:Value} {k:Nat} (h9:Nat.beq k 9999=false)
  (hC:∀ (b:Nat) (es:Array MapEntry) (clock:Nat) (w:World),w.heap[b]? = some (.map es clock)→Calls P f #[.map (some b)] w fun e w'=>e = .returned (.map (some w.heap.size))∧w'=w.alloc (.map es clock)) :
  iH P f [fJ sv] [(k,dm (bI fk rv l) sv)] [.keep] (some (bI fk rv l)) bD.qy:=by
 intro κ B L h w vs E hst hlen hpre hargs
 obtain ⟨v,rfl⟩:∃ v,vs=[v]:=by
  cases vs with
  | nil=>cases hlen
  | cons v r=>cases r with
   | nil=>exact ⟨v,rfl⟩
   | cons _ _=>cases hlen
 have hv:v=sv:=hargs 0 _ v rfl rfl
 obtain ⟨⟨e,hE,b,hsv,rfl⟩,_⟩:=hpre
 obtain ⟨es,clock,hb,hm,Ls⟩:=Ns hst hE
 subst hv
 subst hsv
 refine (hC b es clock w hb).mono ?_
 rintro e w' ⟨rfl,rfl⟩
 have hk:k≠9999:=fun x=>by rw [jg.2 x] at h9;cases h9
 refine ⟨_,h,set1 E 9999 (qQ w.heap.size fk rv l),rfl,nO.refl h,hst.zS _ 9999 _ (by simp [qQ]) ⟨es,clock,zT _ _,hm,Ls⟩,⟨⟨_,?_,b,rfl,rfl⟩,trivial⟩,⟨_,qR,_,rfl,rfl⟩,trivial⟩
 simp [set1,hk,hE]
theorem At.Z9 {ρ κ:Type} {B:Base} {h0:H} {Γ:Ctx} {Λ:Own} {F:κ→Option jh} {n:Nat} {a:Act} {w:World} {T:TypeId} {R:Rep (α×ρ)} {x:α} {p:ρ} {ts:List dM} (s:Nat) (hAt:At B h0 Γ Λ F n a w) (hs:Λ s=some (dS T R (x,p) ts)) :
  At B h0 Γ (fun k=>bif Nat.beq s k then some (UF T R x ts jN) else Λ k) F n a w:=by
 obtain ⟨h,L,hle,hst,rP,mV,hsz,hdf⟩:=hAt
 obtain ⟨e,hL,hq⟩:=rP s _ hs
 have hk:=(hst.own (k:=Sum.inl s) hL).2
 have hst':=hst.swap (e':=Ee e Lr) hL (fun c hc=>⟨c,by simpa [Ee,Lr] using hc,rfl,Nat.le_refl _⟩) ⟨hk,trivial⟩
 refine ⟨h,_,hle,hst',?_,mV,hsz,hdf⟩
 intro k Q hQ
 cases hkk:Nat.beq s k with
 | true =>
  simp only [hkk,cond_true] at hQ
  cases hQ
  rw [jg] at hkk;subst hkk
  exact ⟨_,qR,p,e,Lr,hq,rfl,rfl,fun c hc c' hc'=>by cases hc'⟩
 | false =>
  simp only [hkk,cond_false] at hQ
  obtain ⟨e2,he,hqe⟩:=rP k Q hQ
  exact ⟨e2,by simp [set1,own_ne hkk,he],hqe⟩
theorem Oa {f:α→Value} {rv:Rep β} {l:List (α×β)} {h:H} {v:Value} {e:jh} (k:bI f rv l v e):Rep.FI.rel h [v] v:=by
 obtain ⟨b,rfl,_⟩:=k
 exact ⟨rfl,rfl⟩
theorem At.dropTV {κ:Type} {B:Base} {h0:H} {Γ:Ctx} {Λ:Own} {F:κ→Option jh} {n:Nat} {a:Act} {w:World} {T:TypeId} {r:Rep α} {x:α} {l1 l2:List dM} {t0:dM} (s:Nat) (hAt:At B h0 Γ Λ F n a w) {sv:Value} (hs:Λ s=some (dm (dS T r x (l1 ++ t0 :: l2)) sv)) :
  At B h0 Γ (fun k=>bif Nat.beq s k then some (dm (dS T r x (l1 ++ l2)) sv) else Λ k) F n a w:=by
 obtain ⟨h,L,hle,hst,rP,mV,hsz,hdf⟩:=hAt
 obtain ⟨e,hL,b,us,hv,hta,Ls,rfl⟩:=rP s _ hs
 obtain ⟨FY,u0,GY,rfl,_,_,h3,h4⟩:=hta.mid
 have hsub:(FY ++ GY).Sublist (FY ++ u0 :: GY):=(List.Sublist.refl FY).append (List.sublist_cons_self _ _)
 obtain ⟨⟨cs,hb,hr,hu1⟩,hu2⟩:=Dx hst hL
 have hst':=hst.swap (e':=mJ b T r x (FY ++ GY)) hL (fun c hc=>by
  refine ⟨c,?_,rfl,Nat.le_refl _⟩
  rcases List.mem_cons.1 hc with rfl | hc
  ·exact List.mem_cons_self
  ·exact List.mem_cons_of_mem _ (Oo hsub c hc)) ⟨⟨cs,hb,hr,fun u hu=>hu1 u (hsub.subset hu)⟩,fun u hu=>hu2 u (hsub.subset hu)⟩
 refine ⟨h,_,hle,hst',?_,mV,hsz,hdf⟩
 intro k q hq
 cases hk:Nat.beq s k with
 | true =>
  simp only [hk,cond_true] at hq
  cases hq
  rw [jg] at hk;subst hk
  exact ⟨_,qR,b,_,hv,h4.app h3,Ls.sub hsub,rfl⟩
 | false =>
  simp only [hk,cond_false] at hq
  obtain ⟨e,he,hqe⟩:=rP k q hq
  have:k≠s:=fun x=>by rw [jg.2 x.symm] at hk;cases hk
  exact ⟨e,by simp [set1,this,he],hqe⟩
section
variable {ρ:Option Nat} {κ:Type} {B:Base} {h0:H} {Γ:Ctx} {Λ:Own} {F:κ→Option jh} {n:Nat} {a:Act} {w:World} {vM:Nat→Value} {pre:List (Nat×gQ)} {post:List Po}
theorem U8 {fn:Func} {S:Type} {mk:S→Value→List gQ} {R:Nat} {sv:Value} (s:S) (ks:List Nat) {rv rv':ResultVar} {g g':bD} (hr:fn.results = #[.tmp R,rv,rv']) (hR:Γ R=fJ sv) (hks:Om Λ ks (mk s sv)) (hn:(uP ks&&DF ks pre)=true) (h1:Jc P Γ Λ rv g) (h2:Jc P Γ Λ rv' g')
  (hA:PostA Γ Λ vM pre post) (hAt:At B h0 Γ Λ F n a w):BO P fn B h0 F vM pre post (some (NV (jQ mk))) (WS bD.qy g g') .ret a w:=by
 obtain ⟨h,L,hl,hst,rP,mV,_,hdf⟩:=hAt
 rw [Bool.and_eq_true] at hn
 obtain ⟨l,g1,g2,g3,g4⟩:=Ry rP hks hn.1
 obtain ⟨v,hv,hp⟩:=h1 _ B F h a w L hst rP mV
 obtain ⟨v',hv',hp'⟩:=h2 _ B F h a w L hst rP mV
 have hRv:=mV R
 rw [hR] at hRv
 have hRv:a.gt R=sv:=hRv
 have hv0:(resV a.tmps (.tmp R)).run P w = .ok (a.gt R) w:=rfl
 refine fun hB=>.inl ⟨hdf.trans hB,Value.tuple #[a.gt R,v,v'],?_,_,h,_,rfl,hl,hst.sW 9999 g3,hA.ok rP mV (fun k q hm=>?_),⟨sW l,if_pos rfl,a.gt R,v,v',rfl,s,l,by rw [hRv];exact g1,g2,J5 hst g3 g2,rfl⟩,_,_,_,rfl,trivial,hp,hp'⟩
 ·rw [wV];simp [hr,hv,hv',hv0]
 ·obtain ⟨a1,a2⟩:=Ed hn.2 k q hm
  simp only [if_neg a2,g4 k a1];rfl
end
end Go.KB
