/- Raw cells, variables that hold maps, variables that are captured or that go to keys that are no slots. Functions as numbers, slices of which nil is known, regions in parts, objects that are handed back. Variables of which several fields are rows or maps that are owned. clear of the end of a row that is owned. Struct values of which several fields are rows that are owned: variables, arguments, results. maps.Clone: a copy of a map that is owned. No condition. -/
import Derived.Test.YtdmioehoinnamaaGreatDoorKZe
import Derived.Lib.LazyBuf
namespace Go.KB
variable {P:Program} {o:Oper} {N:List (Nat×aQ)} {α β:Type}
def Rep.MJ (z:Value) (hz:z.oneCell'=true):Rep Value where
 sz:=1
 agg:=false
 rel:=fun _ cs v=>cs=[v]∧v.oneCell'=true
 zero:=z
 zc:=[z]
 one:=fun _=>rfl
 len:=fun e=>by rw [e.1];rfl
 flat:=fun e c hc=>by rw [e.1] at hc;simp at hc;rw [hc];exact e.2
 mono:=fun _ e=>e
 xX:=fun _=>⟨rfl,hz⟩
abbrev Rep.TK:Rep Value:=Rep.MJ (.map none) rfl
abbrev Rep.GH:Rep Value:=Rep.MJ (.pointer none) rfl
theorem Jk {z:Value} {hz:z.oneCell'=true} {h:H} {v x:Value}:(Rep.MJ z hz).val h v x→v=x:=fun ⟨_,e,e'⟩=>by rw [e',e.1];rfl
theorem opdRaw {z:Value} {hz:z.oneCell'=true} {x:Operand} {sv:Value} (hx:bF N x (fV (Rep.MJ z hz) sv)):bF N x (jk sv):=fun h a n=>Jk (hx h a n)
theorem IL {T:TypeId} {z:Value} {hz:z.oneCell'=true} {sv:Value} {x:Operand} (t:fU P T (Rep.MJ z hz)) (ho:o.op = .load T x) (hx:bF N x (dn (Rep.MJ z hz) sv)):di P o N [] (jk sv) [] :=
 di.out (f:=fV (Rep.MJ z hz) sv) (f':=jk sv) rfl (fun _ _ _ hp=>Jk (z:=z) (hz:=hz) hp) (dA t ho hx)
section
variable {κ:Type} {B:Base} {h0:H} {Γ:Ctx} {Λ:Own} {F:κ→Option gq} {n:Nat} {a:Act} {w:World}
theorem St.H6 {h:H} {L:Nat→Option gq} (hst:St B h (Sum.elim L F) w) (s:Nat) {b:Nat} {T:TypeId} {r:Rep α} {x:α} (hL:L s=some (qK b T r x)) :
  ∃ h',nI h h'∧St B h' (Sum.elim (fun k=>if k=s then none else L k) F) w∧zJ r h' b 0 x:=by
 obtain ⟨cs,hb,hr⟩:=JP hst hL
 obtain ⟨hl2,hst2⟩:=hst.freeze (Sum.inl s) (e:=qK b T r x) hL (b:=b) (lo:=0) (by simp [qK]) hb cs.length (by simp) (L':=Sum.elim (fun k=>if k=s then none else L k) F) (by
  intro k' e' hne he
  cases k' with
  | inr k=>exact he
  | inl k =>
   have:k≠s:=fun x=>hne (by rw [x])
   simpa [this] using he) (fun e' he=>by simp at he)
 have htk:cs.toArray.toList.take cs.length=cs:=by simp
 rw [htk] at hl2 hst2
 refine ⟨_,hl2,hst2,cs,r.mono hl2 hr,fun j v hj=>?_⟩
 have hjl:=(List.getElem?_eq_some_iff.1 hj).1
 rw [Nat.zero_add,zK hjl,← hj,List.getElem?_eq_getElem hjl]
theorem At.H6 {T:TypeId} {r:Rep α} {x:α} (s:Nat) (hAt:At B h0 Γ Λ F n a w) (hs:Λ s=some (dJ T r x)) :
  At B h0 (fun k=>bif Nat.beq s k then dn r x else Γ k) (fun k=>bif Nat.beq s k then none else Λ k) F n a w:=by
 obtain ⟨h,L,hle,hst,vN,oO,hsz,hdf⟩:=hAt
 obtain ⟨e,hL,b,hv,rfl⟩:=vN s _ hs
 obtain ⟨h',hl,hst',hr⟩:=hst.H6 s hL
 refine ⟨h',_,hle.trans hl,hst',?_,?_,hsz,hdf⟩
 ·intro k q hq
  cases hk:Nat.beq s k with
  | true=>simp only [hk,cond_true] at hq;cases hq
  | false =>
   simp only [hk,cond_false] at hq
   have:k≠s:=fun x=>by rw [iQ.2 x.symm] at hk;cases hk
   simpa [this] using vN k q hq
 ·intro k
  cases hk:Nat.beq s k with
  | true =>
   simp only [hk,cond_true]
   rw [iQ] at hk;subst hk
   exact ⟨b,0,hv,hr⟩
  | false=>simp only [hk,cond_false];exact (Γ k).mono hl (oO k)
theorem At.Xt {T:TypeId} {r:Rep α} {x:α} (s g:Nat) (hsg:Nat.beq s g=false) (hAt:At B h0 Γ Λ F n a w) (hs:Λ s=some (dJ T r x)) :
  ∃ sv,At B h0 (fun k=>bif Nat.beq s k then jk sv else Γ k) (fun k=>bif Nat.beq g k then some (eX (bZ T r x []) sv) else bif Nat.beq s k then none else Λ k) F n a w:=by
 have h1:=hAt.X7 (q':=bZ T r x []) s hs (fun v e ⟨b,hv,he⟩=>⟨kR b T r x [],⟨b,[],hv,trivial,⟨List.Pairwise.nil,fun u hu=>by cases hu⟩,rfl⟩,by
  subst he
  intro c hc
  exact ⟨c,by simpa [kR,qK,Ii] using hc,rfl,Nat.le_refl _⟩,by
  subst he
  rintro h m ⟨cs,h1,h2⟩
  exact ⟨⟨cs,h1,h2,fun u hu=>by cases hu⟩,fun u hu=>by cases hu⟩⟩)
 obtain ⟨sv,h2⟩:=h1.Me (q:=bZ T r x []) s g hsg (by simp [Nat.beq_refl])
 refine ⟨sv,?_⟩
 have e:(fun k=>bif Nat.beq g k then some (eX (bZ T r x []) sv) else bif Nat.beq s k then none else bif Nat.beq s k then some (bZ T r x []) else Λ k)=(fun k=>bif Nat.beq g k then some (eX (bZ T r x []) sv) else bif Nat.beq s k then none else Λ k):=by
  funext k
  cases Nat.beq g k <;> cases Nat.beq s k <;> rfl
 rw [e] at h2
 exact h2
end
theorem bC {T:TypeId} {r:Rep α} {y:α} {ts:List bK} {g:Nat} {sv:Value} {x:Operand} (ho:o.op = .nilCheck x) (hx:bF N x (jk sv)):di P o N [(g,eX (bZ T r y ts) sv)] (jk sv) []:=by
 intro κ B F L h a w hst hn hk _ next Q hnext _
 obtain ⟨e,_,b,us,hv,_⟩:=hk.1
 have hx':a.eval x=sv:=hx h a hn
 unfold Oper.rJ
 have:(execOp a.eval o).run P w = .ok (.value sv) w:=by simp [execOp,ho,hx',hv]
 rw [this]
 exact hnext _ h w L (nI.refl h) rfl hst nJ
theorem VJ {T T':TypeId} {r:Rep α} {y:α} {ts:List bK} {g:Nat} {sv:Value} {x:Operand} (ho:o.op = .box T x) (hx:bF N x (jk sv)):di P o N [(g,eX (bZ T' r y ts) sv)] (dn Rep.GH sv) []:=by
 intro κ B F L h a w hst hn hk hdn next Q hnext hns
 obtain ⟨e,hL,hq⟩:=hk.1
 obtain ⟨b,us,hv,_⟩:=hq
 have h1:di P { o with op:=.box T (.const sv) } N [] (dn Rep.GH sv) []:=eu (T:=T) (r:=Rep.GH) (y:=sv) rfl (fun h a n=>⟨[sv],⟨rfl,by rw [hv];rfl⟩,rfl⟩)
 have hx':a.eval x=sv:=hx h a hn
 have h2:=h1 κ B F L h a w hst hn trivial hdn next Q hnext (fun v h' w' L' a1 a2 a3 a4=>hnext v h' w' L' a1 a2 a3 (fun s=>by
  have:=a4 s
  cases hl:qw (full ([]:Hr) o.dst) s with
  | some e=>rw [hl] at this;cases e <;> exact this
  | none =>
   rw [hl] at this
   rcases this with h | ⟨q,hm,_⟩
   ·exact h
   ·cases hm))
 unfold Oper.rJ at h2 ⊢
 have e1:(execOp a.eval { o with op:=Op.box T (.const sv) }).run P w=(execOp a.eval o).run P w:=by
  simp only [execOp,ho,hx'];rfl
 rw [e1] at h2
 exact h2
end Go.KB
namespace Go.KB
variable {P:Program} {o:Oper} {N:List (Nat×aQ)} {α β:Type}
def Rep.yZ:Rep (Option Nat):=Rep.scalar (fun x=>match x with | some f=>.func (.func f) #[] #[] | none=>.nilFunc) none (by intro x;cases x <;> rfl)
theorem QT {h:H} {v:Value} {x:Option Nat}:Rep.yZ.val h v x↔v=(match x with | some f=>.func (.func f) #[] #[] | none=>.nilFunc) :=
 ⟨fun ⟨_,e,e'⟩=>by rw [e',show _=_ from e];rfl,fun e=>⟨_,rfl,e⟩⟩
theorem Gx {f:Nat}:bF N (.func f) (fV Rep.yZ (some f)):=fun _ _ _=>QT.2 rfl
theorem opdNum {f:Nat} {x:Operand} (hx:bF N x (fV Rep.yZ (some f))):bF N x (yL f []):=fun h a n=>⟨[],QT.1 (hx h a n),rfl,fun j g u hg=>by simp at hg⟩
theorem UF {f:Nat} {n:Option Nat} {x:Operand} (hf:n=some f) (hx:bF N x (fV Rep.yZ n)):bF N x (yL f []):=by subst hf;exact opdNum hx
def UI:List (Nat×eP)→List Po→List Po→Prop
 | (_,q0) :: r,p :: ps,p' :: ps'=>(p'=p∨(p = .keep∧p' = .to q0))∧UI r ps ps'
 | [],[],[]=>True
 | _,_,_=>False
theorem UI.ok {E:Nat→Option gq} {g:Nat→Value}:∀ {pre:List (Nat×eP)} {ps ps':List Po},UI pre ps ps'→I4 pre ps E g→I4 pre ps' E g:=by
 intro pre
 induction pre with
 | nil=>intro ps ps' h _;cases ps <;> cases ps' <;> first | trivial | exact h.elim
 | cons x r ih =>
  obtain ⟨k,q0⟩:=x
  intro ps ps' h hp
  cases ps with
  | nil=>exact h.elim
  | cons p ps=>cases ps' with
   | nil=>exact h.elim
   | cons p' ps' =>
    obtain ⟨h1,h2⟩:=h
    refine ⟨?_,ih h2 hp.2⟩
    rcases h1 with rfl | ⟨rfl,rfl⟩
    ·exact hp.1
    ·exact hp.1
theorem mW.post {f:FuncId} {args:List aQ} {pre:List (Nat×eP)} {ps ps':List Po} {own:Option eP} {res:aQ} (h:mW P f args pre ps own res) (hw:UI pre ps ps'):mW P f args pre ps' own res:=by
 intro κ B L h0 w vs E hst hl hpre hargs
 exact (h κ B L h0 w vs E hst hl hpre hargs).mono fun e w' ⟨u,h',E',a,b,c,d,x,y⟩=>⟨u,h',E',a,b,c,hw.ok d,x,y⟩
theorem VP {ρ:Option Nat} {ops ops':Array Oper} {Q:Exit→Act→World→Prop} {i j:Nat} {K:Act→World→Prop} {a:Act} {w:World} (h:ops'[i]? = ops[j]?) (hg:∀ o,ops[j]? = some o→o.guard=none)
  (hh:wpOpIn (LG ρ) 0 P ops' Q i K a w):wpOpIn (LG ρ) 0 P ops Q j K a w:=by
 unfold wpOpIn at *
 rw [h] at hh
 cases hj:ops[j]? with
 | none=>rw [hj] at hh;exact hh
 | some o =>
  rw [hj] at hh
  simp only [] at hh ⊢
  have w1:∀ f,Region.wanted o f=true:=fun f=>by simp [Region.wanted,hg o hj]
  rw [w1] at hh ⊢
  exact hh
def Jl:List Oper→Bool
 | []=>true
 | o :: r=>o.guard.isNone&&Jl r
theorem NV:∀ {l:List Oper},Jl l=true→∀ {i:Nat} {o:Oper},l[i]? = some o→o.guard=none:=by
 intro l
 induction l with
 | nil=>intro _ i o h;simp at h
 | cons x r ih =>
  intro h i o hi
  simp only [Jl,Bool.and_eq_true] at h
  cases i with
  | zero=>simp at hi;subst hi;simpa using h.1
  | succ i=>exact ih h.2 (by simpa using hi)
section
variable {ρ:Option Nat} {κ:Type} {B:Base} {h0:H} {Γ:Ctx} {Λ:Own} {F:κ→Option gq} {n:Nat} {ops:Array Oper} {a:Act} {w:World} {Q:Exit→Act→World→Prop}
theorem Pn {id:Nat} (m:Nat) (hm:ops.size=m) (h:wpOpsIn (LG ρ) 0 P ops Q (List.range' 0 m) a w):(Code.region id ops false).rJ ρ P Q a w:=by
 subst hm
 refine wpIn_region ?_
 rwa [List.range_eq_range']
theorem Td {i:Nat} (h:Q .normal a w):wpOpsIn (LG ρ) 0 P ops Q (List.range' i 0) a w:=h
theorem HY (i k m':Nat) {m:Nat} (hm:m=k+m') (sp:List OS) (l₀ m₀:List Nat) (hAt:At B h0 Γ Λ F n a w)
  (Ed:LQ P sp ((ops.toList.drop i).take k) Γ Λ ((ops.toList.drop i).take k) sp)
  (vZ:(chk Γ Λ false ((ops.toList.drop i).take k) sp&&DF n ((ops.toList.drop i).take k)&&Jl ops.toList&&Nat.ble (i+k) ops.toList.length)=true)
  (hnext:∀ a w,At B h0 (Sm (Gp (Ik Γ ((ops.toList.drop i).take k) sp) l₀)) (NJ (FY (Cb Λ ((ops.toList.drop i).take k) sp) m₀)) F n a w→wpOpsIn (LG ρ) 0 P ops Q (List.range' (i+k) m') a w) :
  wpOpsIn (LG ρ) 0 P ops Q (List.range' i m) a w:=by
 simp only [Bool.and_eq_true,Nat.ble_eq] at vZ
 obtain ⟨⟨⟨hc,hs⟩,hng⟩,hle⟩:=vZ
 have DW:=EY hs
 generalize hl:(ops.toList.drop i).take k=ol at *
 have hlen:=(Hu _ _ Ed).1
 have hk:ol.length=k:=by rw [← hl,List.length_take,List.length_drop];omega
 have hat:∀ j,j<k→ol.toArray[j]? = ops[i+j]?:=by
  intro j hj
  rw [← hl]
  simp only [List.getElem?_toArray,List.getElem?_take,hj,if_true,List.getElem?_drop,Array.getElem?_toList]
 have key:∀ r j a w,j+r=k→J B h0 Γ Λ F n ol sp (fun x=>Nat.blt x j) a w→wpOpsIn (LG ρ) 0 P ops Q (List.range' (i+j) (r+m')) a w:=by
  intro r
  induction r with
  | zero =>
   intro j a w hj hJ
   have hjk:j=k:=by omega
   subst hjk
   rw [Nat.zero_add]
   refine hnext a w ((Xk (ops:=ol.toArray) hlen hJ ?_).pick _ _)
   intro j' o hj'
   have:j'<ol.length:=by rw [zf] at hj';exact (List.getElem?_eq_some_iff.1 hj').1
   rw [Nat.blt_eq];omega
  | succ r ih =>
   intro j a w hj hJ
   rw [show r+1+m'=(r+m')+1 by omega,List.range'_succ,wpOpsIn_cons]
   have hjl:j<ol.length:=by omega
   have hi:um ol j=some ol[j]:=by rw [zf];simp [hjl]
   refine wpOpIn_mono (K:=J B h0 Γ Λ F n ol sp (fun x=>bif Nat.beq x j then true else Nat.blt x j)) ?_ (VP (hat j (by omega)) (fun o ho=>NV hng (by rwa [Array.getElem?_toList])) (O0 (ops:=ol.toArray) (draw:=false) Ed hc DW hi ?_ ?_ ?_ ?_ hJ))
   ·intro a w hJ'
    refine ih (j+1) a w (by omega) (Hw (fun x o _=>?_) hJ')
    cases hb:Nat.beq x j with
    | true=>rw [iQ] at hb;subst hb;simp [Nat.blt_eq]
    | false =>
     have:x≠j:=fun e=>by rw [iQ.2 e] at hb;cases hb
     simp only [cond_false]
     rw [Bool.eq_iff_iff,Nat.blt_eq,Nat.blt_eq];omega
   ·rw [Bool.eq_false_iff,Ne,Nat.blt_eq];omega
   ·intro x hx;simpa [numOf] using hx
   ·intro x o' _ hx
    simp only [numOf,cond_false,Nat.blt_eq] at hx
    rw [Bool.eq_false_iff,Ne,Nat.blt_eq];omega
   ·intro x o' _ hx y hy
    simp only [numOf,cond_false,Nat.blt_eq] at hx hy ⊢
    omega
 rw [hm]
 exact key k 0 a w (by omega) (Hw (fun j o _=>by rw [eq_comm,Bool.eq_false_iff,Ne,Nat.blt_eq];omega) (O1 hAt _ sp))
end
def PE:List eP→KE→Prop
 | q :: r,p :: l=>q undef p.2∧PE r l
 | [],[]=>True
 | _,_=>False
def jQ {S:Type} (mk:S→Value→List eP):eP:=fun v e=>∃ (s:S) (l:KE),PE (mk s v) l∧J8 l=true∧MK l∧e=AZ l
def QU:List Nat→List eP→List (Nat×eP)
 | k :: ks,q :: r=>(k,q) :: QU ks r
 | _,_=>[]
def PG:List Nat→KE→KE
 | k :: ks,p :: l=>(k,p.2) :: PG ks l
 | _,_=>[]
def X8:List eP→Prop
 | q :: r=>Gh q∧X8 r
 | []=>True
theorem ML:∀ {l:KE} {ks:List Nat} {p:Nat×gq},p ∈ PG ks l→∃ k,(k,p.2) ∈ l:=by
 intro l
 induction l with
 | nil=>intro ks p h;cases ks <;> cases h
 | cons x r ih =>
  intro ks p h
  cases ks with
  | nil=>cases h
  | cons k ks =>
   rcases List.mem_cons.1 h with rfl | h
   ·exact ⟨x.1,List.mem_cons_self⟩
   ·obtain ⟨k',h'⟩:=ih h;exact ⟨k',List.mem_cons_of_mem _ h'⟩
theorem QV {l:KE} {ks:List Nat} {c} (h:c ∈ (AZ (PG ks l)).claims):c ∈ (AZ l).claims:=by
 obtain ⟨p,hp,hc⟩:=List.mem_flatMap.1 h
 obtain ⟨k,hk⟩:=ML hp
 exact List.mem_flatMap.2 ⟨_,hk,hc⟩
theorem VQ:∀ {l:KE} {ks:List Nat},MK l→MK (PG ks l):=by
 intro l
 induction l with
 | nil=>intro ks _;cases ks <;> exact List.Pairwise.nil
 | cons x r ih =>
  intro ks h
  cases ks with
  | nil=>exact List.Pairwise.nil
  | cons k ks =>
   obtain ⟨h1,h2⟩:=List.pairwise_cons.1 h
   exact List.pairwise_cons.2 ⟨fun p hp=>let ⟨k',hk'⟩:=ML hp;h1 (k',p.2) hk',ih h2⟩
theorem ZA {k:Nat}:∀ {qs:List eP} {l:KE} {ks:List Nat},PE qs l→X8 qs→qs.length=ks.length →
  (Za (QU ks qs) k=none∧JH (PG ks l) k=none)∨∃ q e,Za (QU ks qs) k=some q∧JH (PG ks l) k=some e∧q undef e∧Gh q:=by
 intro qs
 induction qs with
 | nil=>intro l ks hm _ hl;cases l with
  | nil=>cases ks <;> exact .inl ⟨rfl,rfl⟩
  | cons=>exact hm.elim
 | cons q qs ih =>
  intro l ks hm hg hl
  cases l with
  | nil=>exact hm.elim
  | cons p l=>cases ks with
   | nil=>cases hl
   | cons k0 ks =>
    simp only [QU,PG,Za,JH]
    cases hb:Nat.beq k0 k with
    | true=>exact .inr ⟨q,p.2,rfl,rfl,hm.1,hg.1⟩
    | false=>exact ih hm.2 hg.2 (by simpa using hl)
section
variable {κ:Type} {B:Base} {h0:H} {Γ:Ctx} {Λ:Own} {F:κ→Option gq} {n:Nat} {a:Act} {w:World} {vM:Nat→Value} {pre:List (Nat×eP)} {post:List Po}
theorem At.Pg {S:Type} {mk:S→Value→List eP} (d:Nat) (ks:List Nat) (hlen:∀ s v,(mk s v).length=ks.length) (hG:∀ s v,X8 (mk s v)) (hAt:At B h0 Γ Λ F n a w) (hs:Λ d=some (jQ mk)) :
  ∃ s sv,At B h0 (fun k=>bif Nat.beq d k then jk sv else Γ k) (fun k=>match Za (QU ks (mk s sv)) k with | some q=>some q | none=>bif Nat.beq d k then none else Λ k) F n a w:=by
 obtain ⟨h,L,hle,hst,vN,oO,hsz,hdf⟩:=hAt
 obtain ⟨e,hL,s,l,hm,hnd,hdj,rfl⟩:=vN d _ hs
 have hst1:=hst.swap (e':=AZ (PG ks l)) hL (fun c hc=>⟨c,QV hc,rfl,Nat.le_refl _⟩) (fun p hp=>by
  obtain ⟨k,hk⟩:=ML hp
  exact (hst.own (k:=Sum.inl d) hL).2 (k,p.2) hk)
 have hst2:=hst1.splitK (g:=d) (l:=PG ks l) vw (VQ hdj)
 refine ⟨s,a.gt d,h,_,hle,hst2,?_,?_,hsz,hdf⟩
 ·intro k q hq
  rcases ZA (k:=k) hm (hG s _) (hlen s _) with ⟨h1,h2⟩ | ⟨q',e,h1,h2,h3,h4⟩
  ·simp only [h1] at hq
   simp only [h2]
   cases hb:Nat.beq d k with
   | true=>rw [hb] at hq;cases hq
   | false =>
    rw [hb] at hq
    have hne:k≠d:=fun x=>by rw [iQ.2 x.symm] at hb;cases hb
    obtain ⟨e,h5,h6⟩:=vN k q hq
    exact ⟨e,by rw [if_neg hne];simp [set1,hne,h5],h6⟩
  ·simp only [h1] at hq
   cases hq
   simp only [h2]
   exact ⟨e,rfl,h4 _ _ _ h3⟩
 ·intro k
  cases hb:Nat.beq d k with
  | true=>simp only [cond_true,hb];rw [iQ] at hb;subst hb;exact rfl
  | false=>simp only [cond_false,hb];exact oO k
def TL (Λ:Own):List Nat→List eP→Prop
 | k :: ks,q :: r=>Λ k=some q∧Gh q∧TL Λ ks r
 | [],[]=>True
 | _,_=>False
def H7 (ks:List Nat):List (Nat×eP)→Bool
 | []=>true
 | (k,_) :: r=>!(has ks k) && !(Nat.beq k 9999)&&H7 ks r
theorem MN {ks:List Nat}:∀ {l:List (Nat×eP)},H7 ks l=true→∀ k q,(k,q) ∈ l→has ks k=false∧k≠9999:=by
 intro l
 induction l with
 | nil=>intro _ k q h;cases h
 | cons x r ih =>
  intro h k q hk
  obtain ⟨k0,q0⟩:=x
  simp only [H7,Bool.and_eq_true,Bool.not_eq_true'] at h
  rcases List.mem_cons.1 hk with h1 | h1
  ·cases h1
   exact ⟨h.1.1,fun x=>by rw [iQ.2 x] at h;exact absurd h.1.2 (by simp)⟩
  ·exact ih h.2 k q h1
theorem ZB {L:Nat→Option gq} (vN:LP Λ L a):∀ {ks:List Nat} {qs:List eP},TL Λ ks qs→PI ks=true→∃ l:KE,PE qs l∧J8 l=true∧(∀ p ∈ l,L p.1=some p.2)∧∀ k,has ks k=false→JH l k=none:=by
 intro ks
 induction ks with
 | nil=>intro qs h _;cases qs with
  | nil=>exact ⟨[],trivial,rfl,⟨(fun p hp=>absurd hp List.not_mem_nil),fun _ _=>rfl⟩⟩
  | cons=>exact h.elim
 | cons k ks ih =>
  intro qs h hn
  cases qs with
  | nil=>exact h.elim
  | cons q qs =>
   obtain ⟨h1,h2,h3⟩:=h
   simp only [PI,Bool.and_eq_true,Bool.not_eq_true'] at hn
   obtain ⟨l,g1,g2,g3,g4⟩:=ih h3 hn.2
   obtain ⟨e,he,hq⟩:=vN k q h1
   refine ⟨(k,e) :: l,⟨h2 _ _ _ hq,g1⟩,?_,?_,?_⟩
   ·simp only [J8,g4 k hn.1,Option.isSome_none,Bool.not_false,Bool.true_and];exact g2
   ·intro p hp
    rcases List.mem_cons.1 hp with rfl | hp
    ·exact he
    ·exact g3 p hp
   ·intro k' hk'
    simp only [has,Bool.or_eq_false_iff] at hk'
    simp only [JH,hk'.1,cond_false]
    exact g4 k' hk'.2
theorem Xy {fn:Func} {S:Type} {mk:S→Value→List eP} {R:Nat} {sv:Value} (s:S) (ks:List Nat) (hr:fn.results = #[.tmp R]) (hR:Γ R=jk sv) (hks:TL Λ ks (mk s sv)) (hn:(PI ks&&H7 ks pre)=true)
  (hA:PostA Γ Λ vM pre post) (hAt:At B h0 Γ Λ F n a w):Jm P fn B h0 F vM pre post (some (jQ mk)) aQ.rD .ret a w:=by
 obtain ⟨h,L,hl,hst,vN,oO,_,hdf⟩:=hAt
 rw [Bool.and_eq_true] at hn
 obtain ⟨l,g1,g2,g3,g4⟩:=ZB vN hks hn.1
 have hRv:=oO R
 rw [hR] at hRv
 have hRv:a.gt R=sv:=hRv
 have hv0:(resV a.tmps (.tmp R)).run P w = .ok (a.gt R) w:=rfl
 refine fun hB=>.inl ⟨hdf.trans hB,a.gt R,?_,_,h,_,rfl,hl,hst.AZ 9999 g3,hA.ok vN oO (fun k q hm=>?_),⟨AZ l,if_pos rfl,s,l,by rw [hRv];exact g1,g2,ZC hst g3 g2,rfl⟩,trivial⟩
 ·rw [zl];simp [hr,hv0]
 ·obtain ⟨a1,a2⟩:=MN hn.2 k q hm
  simp only [if_neg a2,g4 k a1];rfl
end
theorem KJ {sv sm:Value} {T T':TypeId} {r:Rep α} {ts:List bK} {s off:Nat} {x:Operand} {y:α} {get:α→Value} {set:α→Value→α} (l:Lens r Rep.TK off get set) (t:fU P T Rep.TK) (ho:o.op = .load T x) (hx:bF N x (xJ sv off)) (hg:get y=sm) :
  di P o N [(s,eX (bZ T' r y ts) sv)] (jk sm) []:=by
 subst hg
 exact di.out (f:=fV Rep.TK (get y)) rfl (fun _ _ _ hp=>Jk (z:=.map none) (hz:=rfl) hp) (fE l t ho hx)
theorem Hz {f:FuncId} {args C:List aQ} {pre:List (Nat×eP)} {post:List Po} {res:aQ} {xs:List Operand} {gs:List Nat} {K:List (Nat×eP)} {U:Hr}
  (hc:mW P f (args ++ C) pre post none res) (hE:GN P N o xs f C) (hd:ul (res :: args)=true) (vZ:(I5 pre gs && !(match o.dst with | some d=>has gs d | none=>false))=true)
  (hargs:xg N args xs) (hkey:vV N xs pre post gs) (hK:X9 pre gs=K) (hU:Ij gs post ++ PK none o.dst=U):di P o N K aQ.rD U :=
 di.out (f:=res) (by
  have:=og hd res List.mem_cons_self
  rw [this];rfl) (fun _ _ _ _=>trivial) (fH hc hE hd vZ hargs hkey hK hU)
def AL {A C R:Type} (v:Option A×C) (f:C→Option R) (g:A→C→Option R):Option R:=match v with
 | (none,e)=>f e
 | (some x,e)=>g x e
theorem spN {A C R:Type} {f:C→Option R} {g:A→C→Option R} {e:C} {r:R} (H:AL (none,e) f g=some r):f e=some r:=H
theorem spS {A C R:Type} {f:C→Option R} {g:A→C→Option R} {x:A} {e:C} {r:R} (H:AL (some x,e) f g=some r):g x e=some r:=H
theorem Md {T:TypeId} {r:Rep α} {ts:List bK} {x:Operand} {y:α} {d:Nat} (hd:o.dst=some d) (ho:o.op = .box T x) (hx:bF N x (fVN r y ts)):di P o N [] aQ.rD [(d,some (bZ T r y ts))]:=by
 intro κ B F L h a w hst hn _ hdn next Q hnext _
 obtain ⟨cs,hr,hv,hz⟩:=hx h a hn
 unfold Oper.rJ
 have:(execOp a.eval o).run P w = .ok (.value (.pointer (some ⟨w.heap.size,0,none⟩))) (w.alloc (.cells cs.toArray T)):=by
  simp [execOp,ho,Instr.box,hv,Cj hr]
 rw [this]
 refine hnext _ h _ (set1 L d (kR w.heap.size T r y (A7 ts))) (nI.refl h) trivial (hst.BI _ d _ ?_ ⟨⟨_,BJ _ _,hr,hz.at⟩,fun u hu=>by rw [(EF hu).1];trivial⟩) ?_
 ·intro c hc
  have:c ∈ (w.heap.size,0) :: Ii (A7 ts):=hc
  rw [GR] at this
  simp at this;rw [this]
 rw [hd]
 exact qL ⟨_,_,fG (hdn d hd),EG ts,GU _ ts,rfl⟩
theorem At.Tc {κ:Type} {B:Base} {h0:H} {Γ:Ctx} {Λ:Own} {F:κ→Option gq} {n:Nat} {a:Act} {w:World} {f:α→Value} {rv:Rep β} {l:List (α×β)} (s g:Nat) (hsg:Nat.beq s g=false) (hAt:At B h0 Γ Λ F n a w) (hs:Λ s=some (qA f rv l)) :
  ∃ sv,At B h0 (fun k=>bif Nat.beq s k then fV Rep.TK sv else Γ k) (fun k=>bif Nat.beq g k then some (eX (qA f rv l) sv) else bif Nat.beq s k then none else Λ k) F n a w:=by
 obtain ⟨sv,h,L,hle,hst,vN,oO,hsz,hdf⟩:=hAt.Me s g hsg hs
 refine ⟨sv,h,L,hle,hst,vN,?_,hsz,hdf⟩
 obtain ⟨e,hL,b,hv,_⟩:=vN g (eX (qA f rv l) sv) (by simp [Nat.beq_refl])
 intro k
 have:=oO k
 cases hb:Nat.beq s k with
 | true =>
  simp only [hb,cond_true] at this ⊢
  have hg:a.gt k=sv:=this
  exact ⟨[sv],⟨rfl,by rw [hv];rfl⟩,by rw [hg];rfl⟩
 | false=>simp only [hb,cond_false] at this ⊢;exact this
end Go.KB
namespace Go.KB
variable {P:Program} {o:Oper} {N:List (Nat×aQ)} {α β ρ:Type}
def PL:gq where
 claims:=[]
 ok:=fun _ _=>True
 mono:=fun _ x=>x
 frame:=fun _ x=>x
def Zt (T:TypeId) (R:Rep (α×ρ)) (x:α) (ts:List bK) (J:ρ→gq→Prop):eP:=fun v e=>∃ p e1 e2,bZ T R (x,p) ts v e1∧J p e2∧e=J9 e1 e2∧Gl e1.claims e2.claims
def jN:ρ→gq→Prop:=fun _ e=>e=PL
def jC (g:ρ→Value) (q:eP) (J:ρ→gq→Prop):ρ→gq→Prop:=fun p e=>∃ e2 e3,J p e2∧q (g p) e3∧e=J9 e2 e3∧Gl e2.claims e3.claims
section
variable {κ:Type} {B:Base} {h:H} {L:Nat→Option gq} {F:κ→Option gq} {w:World}
end
section
variable {κ:Type} {B:Base} {h0:H} {Γ:Ctx} {Λ:Own} {F:κ→Option gq} {n:Nat} {a:Act} {w:World}
theorem At.congrO {Λ':Own} (h:∀ k,Λ k=Λ' k) (hAt:At B h0 Γ Λ F n a w):At B h0 Γ Λ' F n a w:=by rw [← funext h];exact hAt
theorem At.UJ {s g:Nat} {Q:eP} {P1 P2:Value→gq→Prop} (hsg:Nat.beq s g=false) (hAt:At B h0 Γ Λ F n a w) (hs:Λ s=some Q) (hQ:∀ v e,Q v e→∃ e1 e2,P1 v e1∧P2 v e2∧e=J9 e1 e2∧Gl e1.claims e2.claims) (h2:∀ v v' e,P2 v e→P2 v' e) :
  At B h0 Γ (fun k=>bif Nat.beq s k then some P1 else bif Nat.beq g k then some P2 else Λ k) F n a w:=by
 obtain ⟨h,L,hle,hst,vN,oO,hsz,hdf⟩:=hAt
 obtain ⟨e,hL,hq⟩:=vN s _ hs
 obtain ⟨e1,e2,k1,k2,rfl,hd⟩:=hQ _ _ hq
 have hne:s≠g:=fun x=>by rw [iQ.2 x] at hsg;cases hsg
 obtain ⟨_,o1,o2⟩:=hst.own (k:=Sum.inl s) hL
 have hst':=hst.split2 (d:=g) (e1:=e1) (e2:=e2) hL hne (fun c hc=>List.mem_append_left _ hc) (fun c hc=>List.mem_append_right _ hc) hd o1 o2
 refine ⟨h,_,hle,hst',?_,oO,hsz,hdf⟩
 intro k q hq
 cases hk:Nat.beq s k with
 | true =>
  simp only [hk,cond_true] at hq
  cases hq
  rw [iQ] at hk;subst hk
  exact ⟨e1,by simp [set1,hne],k1⟩
 | false =>
  simp only [hk,cond_false] at hq
  cases hk2:Nat.beq g k with
  | true =>
   simp only [hk2,cond_true] at hq
   cases hq
   rw [iQ] at hk2;subst hk2
   exact ⟨e2,by simp [set1],h2 _ _ _ k2⟩
  | false =>
   simp only [hk2,cond_false] at hq
   obtain ⟨e,he,hqe⟩:=vN k q hq
   have h3:k≠s:=fun x=>by rw [iQ.2 x.symm] at hk;cases hk
   have h4:k≠g:=fun x=>by rw [iQ.2 x.symm] at hk2;cases hk2
   exact ⟨e,by simp [set1,h3,h4,he],hqe⟩
def blob (J:ρ→gq→Prop) (p:ρ):eP:=fun _ e=>J p e
theorem At.Zu {T:TypeId} {R:Rep (α×ρ)} {x:α} {ts:List bK} {J:ρ→gq→Prop} (s g:Nat) (hsg:Nat.beq s g=false) (hAt:At B h0 Γ Λ F n a w) (hs:Λ s=some (Zt T R x ts J)) :
  ∃ p,At B h0 Γ (fun k=>bif Nat.beq s k then some (bZ T R (x,p) ts) else bif Nat.beq g k then some (blob J p) else Λ k) F n a w:=by
 have hAt0:=hAt
 obtain ⟨h,L,hle,hst,vN,oO,hsz,hdf⟩:=hAt
 obtain ⟨e,hL,p,e1,e2,h1,h2,he,hd⟩:=vN s _ hs
 have hX:At B h0 Γ (fun k=>bif Nat.beq s k then some (fun v e'=>v=a.gt s∧e'=e) else Λ k) F n a w:=by
  refine ⟨h,L,hle,hst,?_,oO,hsz,hdf⟩
  intro k q hq
  cases hk:Nat.beq s k with
  | true=>simp only [hk,cond_true] at hq;cases hq;rw [iQ] at hk;subst hk;exact ⟨e,hL,rfl,rfl⟩
  | false=>simp only [hk,cond_false] at hq;exact vN k q hq
 refine ⟨p,At.congrO (fun k=>?_) (hX.UJ (Q:=fun v e'=>v=a.gt s∧e'=e) (P1:=bZ T R (x,p) ts) (P2:=blob J p) hsg (by simp [Nat.beq_refl]) (fun v e' ⟨hv,he'⟩=>⟨e1,e2,by rw [hv];exact h1,h2,he'.trans he,hd⟩) (fun _ _ _ h=>h))⟩
 cases hk:Nat.beq s k with
 | true=>rfl
 | false=>simp only [cond_false]
theorem At.XH {J:ρ→gq→Prop} {gf:ρ→Value} {q:eP} {p:ρ} (g g2:Nat) (hsg:Nat.beq g g2=false) (hAt:At B h0 Γ Λ F n a w) (hs:Λ g=some (blob (jC gf q J) p)) :
  At B h0 Γ (fun k=>bif Nat.beq g k then some (blob J p) else bif Nat.beq g2 k then some (eX q (gf p)) else Λ k) F n a w :=
 hAt.UJ hsg hs (fun _ _ ⟨e2,e3,h1,h2,he,hd⟩=>⟨e2,e3,h1,h2,he,hd⟩) (fun _ _ _ h=>h)
end
end Go.KB
namespace Go.KB
variable {P:Program} {o:Oper} {N:List (Nat×aQ)} {α β:Type}
theorem opdF {P:Program} {N:List (Nat×aQ)} {ι:Type} {A:ι→List aQ} {R:ι→aQ} {f:FuncId} {fn:Func} (hc:∀ i,FnOk P f (A i) (R i)) (hf:P.funcs[f]? = some fn) (hb:uQ fn=true):bF N (.func f) (fF P A R) :=
 fun h a _=>⟨f,fn,#[],rfl,hf,hb,fun i κ B L h' w' vs hl hst hvl hvs=>by simpa using hc i κ B L h' w' vs hst hvl hvs⟩
theorem XZ {P:Program} {N:List (Nat×aQ)} {α β:Type} {r:Rep α} {q:Rep β} {φ:α→Option β} {f:FuncId} {fn:Func} (hc:∀ x y,φ x=some y→FnOk P f [fV r x] (fV q y)) (hf:P.funcs[f]? = some fn) (hb:uQ fn=true):bF N (.func f) (N8 P r q φ):=opdF (fun i=>hc _ _ i.2) hf hb
theorem opdF2 {P:Program} {N:List (Nat×aQ)} {α β γ:Type} {r:Rep α} {s:Rep γ} {q:Rep β} {φ:α→γ→Option β} {f:FuncId} {fn:Func} (hc:∀ x y z,φ x y=some z→FnOk P f [fV r x,fV s y] (fV q z)) (hf:P.funcs[f]? = some fn) (hb:uQ fn=true):bF N (.func f) (fF2 P r s q φ):=opdF (fun i=>hc _ _ _ i.2) hf hb
end Go.KB
namespace Go.KB
variable {P:Program} {o:Oper} {N:List (Nat×aQ)} {α β ρ:Type}
def fGs (q:Rep β) (sv:Value) (ys:List β):aQ:=⟨none,fun h _ _=>(Rep.slice q).rel h [sv] ys,fun hl k=>(Rep.slice q).mono hl k⟩
section
variable {κ:Type} {B:Base} {h0:H} {Γ:Ctx} {Λ:Own} {F:κ→Option gq} {n:Nat} {a:Act} {w:World}
theorem own_ne {s k:Nat} (h:Nat.beq s k=false):k≠s:=fun x=>by rw [iQ.2 x.symm] at h;cases h
theorem At.frzG {sv:Value} {E:TypeId} {q:Rep β} {ys:List β} (g:Nat) (hAt:At B h0 Γ Λ F n a w) (hg:Λ g=some (bW sv E q ys)) :
  At B h0 (fun k=>bif Nat.beq g k then fGs q sv ys else Γ k) (fun k=>bif Nat.beq g k then none else Λ k) F n a w:=by
 obtain ⟨h,L,hle,hst,vN,oO,hsz,hdf⟩:=hAt
 obtain ⟨eg,hLg,hqg⟩:=vN g _ hg
 obtain ⟨h',hl,hst',hsl⟩:=hst.ZE (Sum.inl g) (L':=Sum.elim (fun k=>if k=g then none else L k) F) hLg hqg (by
  intro k' e' hne he
  cases k' with
  | inr k=>exact he
  | inl k =>
   have:k≠g:=fun x=>hne (by rw [x])
   simpa [this] using he) (by simp)
 refine ⟨h',_,hle.trans hl,hst',?_,?_,hsz,hdf⟩
 ·intro k Q hq
  cases hk:Nat.beq g k with
  | true=>simp only [hk,cond_true] at hq;cases hq
  | false =>
   simp only [hk,cond_false] at hq
   obtain ⟨e,he,hqe⟩:=vN k Q hq
   exact ⟨e,by simp [own_ne hk,he],hqe⟩
 ·intro k
  show aQ.at (bif Nat.beq g k then fGs q sv ys else Γ k) h' a k
  cases hk:Nat.beq g k with
  | true=>exact hsl
  | false=>exact (Γ k).mono hl (oO k)
end
theorem Gh.row {sv:Value} {E:TypeId} {r:Rep α} {xs:List α}:Gh (bW sv E r xs):=fun _ _ _ h=>h
theorem vV.gr {xs:List Operand} {k g:Nat} {E:TypeId} {q:Rep α} {ys:List α} {sv:Value} {p:Po} {r ps gs} (e:(Nat.ble 5000 k,p.nt)=(true,true)) (h:vV N xs r ps gs):vV N xs ((k,bW sv E q ys) :: r) (p :: ps) (g :: gs):=.gh (congrArg Prod.fst e) Gh.row (fun q' h2=>by have:=congrArg Prod.snd e;rw [h2] at this;cases this) h
theorem BN {x:Option eP} {b:Bool} {E:TypeId} {q:Rep α} {ys:List α} {sv:Value} {X:Prop} (e:(x,b)=(some (bW sv E q ys),true)):x=some (bW sv E q ys)∧((b=true∧Gh (bW sv E q ys))∨X):=⟨congrArg Prod.fst e,.inl ⟨congrArg Prod.snd e,Gh.row⟩⟩
end Go.KB
namespace Go.KB
variable {P:Program} {α β:Type}
section
variable {ρ:Option Nat} {κ:Type} {B:Base} {h0:H} {Γ:Ctx} {Λ:Own} {F:κ→Option gq} {n:Nat} {a:Act} {w:World} {vM:Nat→Value} {pre:List (Nat×eP)} {post:List Po}
end
end Go.KB
