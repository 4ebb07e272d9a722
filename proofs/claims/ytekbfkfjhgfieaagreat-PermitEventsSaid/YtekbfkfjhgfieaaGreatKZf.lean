/- Raw cells, variables that hold maps, variables that are captured or that go to keys that are no slots. Functions as numbers, slices of which nil is known, regions in parts, objects that are handed back. Variables of which several fields are rows or maps that are owned. clear of the end of a row that is owned. Struct values of which several fields are rows that are owned: variables, arguments, results. No condition. -/
import Derived.Test.YtekbfkfjhgfieaaGreatKZe
import Derived.Lib.LazyBuf
namespace Go.KB
variable {P:Program} {o:Oper} {N:List (Nat×bn)} {α β:Type}
def Rep.V5 (z:Value) (hz:z.oneCell'=true):Rep Value where
 sz:=1
 agg:=false
 rel:=fun _ cs v=>cs=[v]∧v.oneCell'=true
 zero:=z
 zc:=[z]
 one:=fun _=>rfl
 len:=fun e=>by rw [e.1];rfl
 flat:=fun e c hc=>by rw [e.1] at hc;simp at hc;rw [hc];exact e.2
 mono:=fun _ e=>e
 yc:=fun _=>⟨rfl,hz⟩
abbrev Rep.FB:Rep Value:=Rep.V5 (.map none) rfl
abbrev Rep.jP:Rep Value:=Rep.V5 (.pointer none) rfl
theorem Ry {z:Value} {hz:z.oneCell'=true} {h:H} {v x:Value}:(Rep.V5 z hz).val h v x→v=x:=fun ⟨_,e,e'⟩=>by rw [e',e.1];rfl
theorem ny {T:TypeId} {z:Value} {hz:z.oneCell'=true} {sv:Value} {x:Operand} (t:iy P T (Rep.V5 z hz)) (ho:o.op = .load T x) (hx:dG N x (cO (Rep.V5 z hz) sv)):fG P o N [] (lW sv) [] :=
 fG.out (f:=fV (Rep.V5 z hz) sv) (f':=lW sv) rfl (fun _ _ _ hp=>Ry (z:=z) (hz:=hz) hp) (eX t ho hx)
section
variable {κ:Type} {B:Base} {h0:H} {Γ:Ctx} {Λ:Own} {F:κ→Option iV} {n:Nat} {a:Act} {w:World}
theorem St.CY {h:H} {L:Nat→Option iV} (hst:St B h (Sum.elim L F) w) (s:Nat) {b:Nat} {T:TypeId} {r:Rep α} {x:α} (hL:L s=some (vU b T r x)) :
  ∃ h',oU h h'∧St B h' (Sum.elim (fun k=>if k=s then none else L k) F) w∧AY r h' b 0 x:=by
 obtain ⟨cs,hb,hr⟩:=Gz hst hL
 obtain ⟨hl2,hst2⟩:=hst.freeze (Sum.inl s) (e:=vU b T r x) hL (b:=b) (lo:=0) (by simp [vU]) hb cs.length (by simp) (L':=Sum.elim (fun k=>if k=s then none else L k) F) (by
  intro k' e' hne he
  cases k' with
  | inr k=>exact he
  | inl k =>
   have:k≠s:=fun x=>hne (by rw [x])
   simpa [this] using he) (fun e' he=>by simp at he)
 have htk:cs.toArray.toList.take cs.length=cs:=by simp
 rw [htk] at hl2 hst2
 refine ⟨_,hl2,hst2,cs,r.mono hl2 hr,fun j v hj=>?_⟩
 have hjl:=(List.getElem?_eq_some_iff.1 hj).1
 rw [Nat.zero_add,Dw hjl,← hj,List.getElem?_eq_getElem hjl]
theorem At.CY {T:TypeId} {r:Rep α} {x:α} (s:Nat) (hAt:At B h0 Γ Λ F n a w) (hs:Λ s=some (bf T r x)) :
  At B h0 (fun k=>bif Nat.beq s k then cO r x else Γ k) (fun k=>bif Nat.beq s k then none else Λ k) F n a w:=by
 obtain ⟨h,L,hle,hst,rD,mJ,hsz,hdf⟩:=hAt
 obtain ⟨e,hL,b,hv,rfl⟩:=rD s _ hs
 obtain ⟨h',hl,hst',hr⟩:=hst.CY s hL
 refine ⟨h',_,hle.trans hl,hst',?_,?_,hsz,hdf⟩
 ·intro k q hq
  cases hk:Nat.beq s k with
  | true=>simp only [hk,cond_true] at hq;cases hq
  | false =>
   simp only [hk,cond_false] at hq
   have:k≠s:=fun x=>by rw [iW.2 x.symm] at hk;cases hk
   simpa [this] using rD k q hq
 ·intro k
  cases hk:Nat.beq s k with
  | true =>
   simp only [hk,cond_true]
   rw [iW] at hk;subst hk
   exact ⟨b,0,hv,hr⟩
  | false=>simp only [hk,cond_false];exact (Γ k).mono hl (mJ k)
theorem At.XH {T:TypeId} {r:Rep α} {x:α} (s g:Nat) (hsg:Nat.beq s g=false) (hAt:At B h0 Γ Λ F n a w) (hs:Λ s=some (bf T r x)) :
  ∃ sv,At B h0 (fun k=>bif Nat.beq s k then lW sv else Γ k) (fun k=>bif Nat.beq g k then some (iF (di T r x []) sv) else bif Nat.beq s k then none else Λ k) F n a w:=by
 have h1:=hAt.XR (q':=di T r x []) s hs (fun v e ⟨b,hv,he⟩=>⟨jw b T r x [],⟨b,[],hv,trivial,⟨List.Pairwise.nil,fun u hu=>by cases hu⟩,rfl⟩,by
  subst he
  intro c hc
  exact ⟨c,by simpa [jw,vU,GH] using hc,rfl,Nat.le_refl _⟩,by
  subst he
  rintro h m ⟨cs,h1,h2⟩
  exact ⟨⟨cs,h1,h2,fun u hu=>by cases hu⟩,fun u hu=>by cases hu⟩⟩)
 obtain ⟨sv,h2⟩:=h1.Rn (q:=di T r x []) s g hsg (by simp [Nat.beq_refl])
 refine ⟨sv,?_⟩
 have e:(fun k=>bif Nat.beq g k then some (iF (di T r x []) sv) else bif Nat.beq s k then none else bif Nat.beq s k then some (di T r x []) else Λ k)=(fun k=>bif Nat.beq g k then some (iF (di T r x []) sv) else bif Nat.beq s k then none else Λ k):=by
  funext k
  cases Nat.beq g k <;> cases Nat.beq s k <;> rfl
 rw [e] at h2
 exact h2
end
theorem Rt {r:Rep α} {x:α} {T:TypeId} {ts:List dA} {Γ:Ctx} {Λ:Own} {s g:Nat} {sv:Value} (t:iy P T r) (hf:Γ s=lW sv) (hs:Λ g=some (iF (di T r x ts) sv)):LZ P Γ Λ (.cell s T) (fV r x):=by
 intro κ B F h a w L hst rD mJ
 obtain ⟨e,hL,b,us,hv,_,_,rfl⟩:=rD g _ hs
 have h1:=mJ s
 rw [hf] at h1
 have h1:a.gt s=sv:=h1
 obtain ⟨⟨cs,hb,hrel,_⟩,_⟩:=zf hst hL
 obtain ⟨c,hc,hrun⟩:=xK t (Lens.refl r) hb hrel
 refine ⟨pack r.agg c,?_,c,hc,rfl⟩
 have hv':a.tmps.getD s undef = .pointer (some ⟨b,0,none⟩):=h1.trans hv
 have hrun':(loadVar T ⟨b,0,none⟩).run P w = .ok (pack r.agg c) w:=by simpa [Instr.loadAt,Instr.sureAddr] using hrun
 simp only [resV,hv',asAddr,Sem.run_bind,Sem.run_pure,Result.andThen_ok,hrun']
theorem dQ {T:TypeId} {r:Rep α} {y:α} {ts:List dA} {g:Nat} {sv:Value} {x:Operand} (ho:o.op = .nilCheck x) (hx:dG N x (lW sv)):fG P o N [(g,iF (di T r y ts) sv)] (lW sv) []:=by
 intro κ B F L h a w hst hn hk _ next Q hnext _
 obtain ⟨e,_,b,us,hv,_⟩:=hk.1
 have hx':a.eval x=sv:=hx h a hn
 unfold Oper.qU
 have:(execOp a.eval o).run P w = .ok (.value sv) w:=by simp [execOp,ho,hx',hv]
 rw [this]
 exact hnext _ h w L (oU.refl h) rfl hst oN
theorem EG {T T':TypeId} {r:Rep α} {y:α} {ts:List dA} {g:Nat} {sv:Value} {x:Operand} (ho:o.op = .box T x) (hx:dG N x (lW sv)):fG P o N [(g,iF (di T' r y ts) sv)] (cO Rep.jP sv) []:=by
 intro κ B F L h a w hst hn hk hdn next Q hnext hns
 obtain ⟨e,hL,hq⟩:=hk.1
 obtain ⟨b,us,hv,_⟩:=hq
 have h1:fG P { o with op:=.box T (.const sv) } N [] (cO Rep.jP sv) []:=iR (T:=T) (r:=Rep.jP) (y:=sv) rfl (fun h a n=>⟨[sv],⟨rfl,by rw [hv];rfl⟩,rfl⟩)
 have hx':a.eval x=sv:=hx h a hn
 have h2:=h1 κ B F L h a w hst hn trivial hdn next Q hnext (fun v h' w' L' a1 a2 a3 a4=>hnext v h' w' L' a1 a2 a3 (fun s=>by
  have:=a4 s
  cases hl:sN (full ([]:Jm) o.dst) s with
  | some e=>rw [hl] at this;cases e <;> exact this
  | none =>
   rw [hl] at this
   rcases this with h | ⟨q,hm,_⟩
   ·exact h
   ·cases hm))
 unfold Oper.qU at h2 ⊢
 have e1:(execOp a.eval { o with op:=Op.box T (.const sv) }).run P w=(execOp a.eval o).run P w:=by
  simp only [execOp,ho,hx'];rfl
 rw [e1] at h2
 exact h2
end Go.KB
namespace Go.KB
variable {P:Program} {o:Oper} {N:List (Nat×bn)} {α β:Type}
def Rep.P5:Rep (Option Nat):=Rep.scalar (fun x=>match x with | some f=>.func (.func f) #[] #[] | none=>.nilFunc) none (by intro x;cases x <;> rfl)
theorem ND {h:H} {v:Value} {x:Option Nat}:Rep.P5.val h v x↔v=(match x with | some f=>.func (.func f) #[] #[] | none=>.nilFunc) :=
 ⟨fun ⟨_,e,e'⟩=>by rw [e',show _=_ from e];rfl,fun e=>⟨_,rfl,e⟩⟩
theorem FZ {f:Nat}:dG N (.func f) (fV Rep.P5 (some f)):=fun _ _ _=>ND.2 rfl
theorem opdNum {f:Nat} {x:Operand} (hx:dG N x (fV Rep.P5 (some f))):dG N x (qG f []):=fun h a n=>⟨[],ND.1 (hx h a n),rfl,fun j g u hg=>by simp at hg⟩
theorem Zr {f:Nat} {n:Option Nat} {x:Operand} (hf:n=some f) (hx:dG N x (fV Rep.P5 n)):dG N x (qG f []):=by subst hf;exact opdNum hx
theorem opd9 {s:Nat} {f:bn} {q0 q1 q2 q3 q4 q5 q6 q7 q8:Nat×bn}:dG (q0 :: q1 :: q2 :: q3 :: q4 :: q5 :: q6 :: q7 :: q8 :: (s,f) :: N) (.tmp s) f:=fun _ _ n=>n.2.2.2.2.2.2.2.2.2.1
theorem opd10 {s:Nat} {f:bn} {q0 q1 q2 q3 q4 q5 q6 q7 q8 q9:Nat×bn}:dG (q0 :: q1 :: q2 :: q3 :: q4 :: q5 :: q6 :: q7 :: q8 :: q9 :: (s,f) :: N) (.tmp s) f:=fun _ _ n=>n.2.2.2.2.2.2.2.2.2.2.1
theorem opd11 {s:Nat} {f:bn} {q0 q1 q2 q3 q4 q5 q6 q7 q8 q9 q10:Nat×bn}:dG (q0 :: q1 :: q2 :: q3 :: q4 :: q5 :: q6 :: q7 :: q8 :: q9 :: q10 :: (s,f) :: N) (.tmp s) f:=fun _ _ n=>n.2.2.2.2.2.2.2.2.2.2.2.1
def Rep.Gy (r:Rep α):Rep (List α) where
 sz:=1
 agg:=false
 rel:=fun h cs xs=>∃ v,cs=[v]∧Az r h v xs∧(xs=[]→v = .slice none 0 0)
 zero:=[]
 zc:=[.slice none 0 0]
 one:=fun _=>rfl
 len:=fun ⟨v,e,_⟩=>by rw [e];rfl
 flat:=fun ⟨v,e,k,_⟩ c hc=>(Rep.slice r).flat ⟨v,e,k⟩ c hc
 mono:=fun hl ⟨v,e,k,z⟩=>⟨v,e,k.mono hl,z⟩
 yc:=fun _=>⟨_,rfl,.inl ⟨⟨none,rfl⟩,rfl⟩,fun _=>rfl⟩
theorem opdE {r:Rep α} {x:Operand} {xs:List α} (hx:dG N x (fV (Rep.Gy r) xs)):dG N x (fV (Rep.slice r) xs):=fun h a n=>by
 obtain ⟨cs,⟨v,e,k,_⟩,e'⟩:=hx h a n
 exact ⟨cs,⟨v,e,k⟩,e'⟩
theorem Ru {r:Rep α}:dG N (.const (.slice none 0 0)) (fV (Rep.Gy r) []):=fun _ _ _=>⟨_,⟨_,rfl,.inl ⟨⟨none,rfl⟩,rfl⟩,fun _=>rfl⟩,rfl⟩
theorem Nz {r:Rep α} {x:Operand} {y:α} {l:List α} (hx:dG N x (fV (Rep.slice r) (y :: l))):dG N x (fV (Rep.Gy r) (y :: l)):=fun h a n=>by
 obtain ⟨cs,⟨v,e,k⟩,e'⟩:=hx h a n
 exact ⟨cs,⟨v,e,k,fun hx=>by cases hx⟩,e'⟩
theorem VU {T T' E:TypeId} {r:Rep α} {x:Operand} {xs:List α} (hT:P.underlying T=some (.slice E)) (ho:o.op = .binOp .neq T x (.const (.slice none 0 0)) T') (hx:dG N x (fV (Rep.Gy r) xs)):fG P o N [] (fV Rep.bool (!xs.isEmpty)) [] :=
 fG.vz fun h a w _ n=>by
  have hg:∀ v,eqGuard .neq T x (.const (.slice none 0 0)) v (.slice none 0 0)=pure ():=by
   intro v;unfold eqGuard;cases v <;> rfl
  obtain ⟨cs,⟨v,e,k,z⟩,e'⟩:=hx h a n
  have hv:a.eval x=v:=by rw [show a.eval x=pack (Rep.Gy r).agg cs from e',e];rfl
  have fin:∀ p l c b,v = .slice p l c→(!xs.isEmpty) = !p.isNone→∃ u,(execOp a.eval o).run P w = .ok (.value u) w∧(fV Rep.bool (!xs.isEmpty)).p h b u:=by
   intro p l c b hp hb
   refine ⟨.bool (!p.isNone),?_,nS.2 (by rw [hb])⟩
   simp only [execOp,ho,hv,hp]
   show ((do eqGuard _ _ _ _ _ (.slice none 0 0);binOp .neq T (.slice _ _ _) (.slice none 0 0)) >>= fun v=>pure (Next.value v)).run P w=_
   rw [hg];simp only [pure_bind,Sem.run_bind,Go.run_neq_slice_nil w T E p l c hT,Result.andThen_ok,Sem.run_pure]
  rcases k with ⟨_,rfl⟩ | ⟨b,off,cap,hv2,hc,_⟩
  ·exact fin none 0 0 _ (z rfl) rfl
  ·cases xs with
   | nil=>exact fin none 0 0 _ (z rfl) rfl
   | cons y l=>exact fin _ _ _ _ hv2 rfl
theorem Hr {T T' T'':TypeId} {r:Rep α} {y:α} {ts:List dA} {g:Nat} {sv:Value} {x:Operand} (hT:P.underlying T=some (.pointer (P.pointee T))) (ho:o.op = .binOp .eql T x (.const (.pointer none)) T') (hx:dG N x (lW sv)):fG P o N [(g,iF (di T'' r y ts) sv)] (fV Rep.bool false) []:=by
 intro κ B F L h a w hst hn hk _ next Q hnext _
 obtain ⟨e,_,b,us,hv,_⟩:=hk.1
 have hx':a.eval x = .pointer (some ⟨b,0,none⟩):=(hx h a hn:a.eval x=sv).trans hv
 have hg:∀ p,(eqGuard .eql T x (.const (.pointer none)) (.pointer p) (.pointer none)).run P w = .ok () w:=by
  intro p;unfold eqGuard;rfl
 unfold Oper.qU
 have:(execOp a.eval o).run P w = .ok (.value (.bool false)) w:=by
  simp only [execOp,ho,hx',show a.eval (.const (.pointer none)) = .pointer none from rfl,hg,Sem.run_bind,Result.andThen_ok,Sem.run_pure,run_eql_pointer_nil w T (some ⟨b,0,none⟩) hT];rfl
 rw [this]
 exact hnext _ h w L (oU.refl h) (nS.2 rfl) hst oN
def Vt:List (Nat×gq)→List Po→List Po→Prop
 | (_,q0) :: r,p :: ps,p' :: ps'=>(p'=p∨(p = .keep∧p' = .to q0))∧Vt r ps ps'
 | [],[],[]=>True
 | _,_,_=>False
theorem Vt.ok {E:Nat→Option iV} {g:Nat→Value}:∀ {pre:List (Nat×gq)} {ps ps':List Po},Vt pre ps ps'→FD pre ps E g→FD pre ps' E g:=by
 intro pre
 induction pre with
 | nil=>intro ps ps' h _;cases ps <;> cases ps' <;> first | trivial | exact h.elim
 | cons x r ih =>
  obtain ⟨k,q0⟩:=x
  intro ps ps' h hp
  cases ps with
  | nil=>exact h.elim
  | cons p ps=>cases ps' with
   | nil=>exact h.elim
   | cons p' ps' =>
    obtain ⟨h1,h2⟩:=h
    refine ⟨?_,ih h2 hp.2⟩
    rcases h1 with rfl | ⟨rfl,rfl⟩
    ·exact hp.1
    ·exact hp.1
theorem mV.post {f:FuncId} {args:List bn} {pre:List (Nat×gq)} {ps ps':List Po} {own:Option gq} {res:bn} (h:mV P f args pre ps own res) (hw:Vt pre ps ps'):mV P f args pre ps' own res:=by
 intro κ B L h0 w vs E hst hl hpre hargs
 exact (h κ B L h0 w vs E hst hl hpre hargs).mono fun e w' ⟨u,h',E',a,b,c,d,x,y⟩=>⟨u,h',E',a,b,c,hw.ok d,x,y⟩
theorem V6 {ρ:Option Nat} {ops ops':Array Oper} {Q:Exit→Act→World→Prop} {i j:Nat} {K:Act→World→Prop} {a:Act} {w:World} (h:ops'[i]? = ops[j]?) (hg:∀ o,ops[j]? = some o→o.guard=none)
  (hh:wpOpIn (OG ρ) 0 P ops' Q i K a w):wpOpIn (OG ρ) 0 P ops Q j K a w:=by
 unfold wpOpIn at *
 rw [h] at hh
 cases hj:ops[j]? with
 | none=>rw [hj] at hh;exact hh
 | some o =>
  rw [hj] at hh
  simp only [] at hh ⊢
  have w1:∀ f,Region.wanted o f=true:=fun f=>by simp [Region.wanted,hg o hj]
  rw [w1] at hh ⊢
  exact hh
def Jy:List Oper→Bool
 | []=>true
 | o :: r=>o.guard.isNone&&Jy r
theorem OL:∀ {l:List Oper},Jy l=true→∀ {i:Nat} {o:Oper},l[i]? = some o→o.guard=none:=by
 intro l
 induction l with
 | nil=>intro _ i o h;simp at h
 | cons x r ih =>
  intro h i o hi
  simp only [Jy,Bool.and_eq_true] at h
  cases i with
  | zero=>simp at hi;subst hi;simpa using h.1
  | succ i=>exact ih h.2 (by simpa using hi)
section
variable {ρ:Option Nat} {κ:Type} {B:Base} {h0:H} {Γ:Ctx} {Λ:Own} {F:κ→Option iV} {n:Nat} {ops:Array Oper} {a:Act} {w:World} {Q:Exit→Act→World→Prop}
theorem PW {id:Nat} (m:Nat) (hm:ops.size=m) (h:wpOpsIn (OG ρ) 0 P ops Q (List.range' 0 m) a w):(Code.region id ops false).qU ρ P Q a w:=by
 subst hm
 refine wpIn_region ?_
 rwa [List.range_eq_range']
theorem TR {i:Nat} (h:Q .normal a w):wpOpsIn (OG ρ) 0 P ops Q (List.range' i 0) a w:=h
theorem Ht (i k m':Nat) {m:Nat} (hm:m=k+m') (sp:List OS) (l₀ m₀:List Nat) (hAt:At B h0 Γ Λ F n a w)
  (DX:L6 P sp ((ops.toList.drop i).take k) Γ Λ ((ops.toList.drop i).take k) sp)
  (vV:(chk Γ Λ false ((ops.toList.drop i).take k) sp&&CQ n ((ops.toList.drop i).take k)&&Jy ops.toList&&Nat.ble (i+k) ops.toList.length)=true)
  (hnext:∀ a w,At B h0 (Iy (GI (GK Γ ((ops.toList.drop i).take k) sp) l₀)) (EJ (F5 (CS Λ ((ops.toList.drop i).take k) sp) m₀)) F n a w→wpOpsIn (OG ρ) 0 P ops Q (List.range' (i+k) m') a w) :
  wpOpsIn (OG ρ) 0 P ops Q (List.range' i m) a w:=by
 simp only [Bool.and_eq_true,Nat.ble_eq] at vV
 obtain ⟨⟨⟨hc,hs⟩,hng⟩,hle⟩:=vV
 have Eo:=FH hs
 generalize hl:(ops.toList.drop i).take k=ol at *
 have hlen:=(Hz _ _ DX).1
 have hk:ol.length=k:=by rw [← hl,List.length_take,List.length_drop];omega
 have hat:∀ j,j<k→ol.toArray[j]? = ops[i+j]?:=by
  intro j hj
  rw [← hl]
  simp only [List.getElem?_toArray,List.getElem?_take,hj,if_true,List.getElem?_drop,Array.getElem?_toList]
 have key:∀ r j a w,j+r=k→J B h0 Γ Λ F n ol sp (fun x=>Nat.blt x j) a w→wpOpsIn (OG ρ) 0 P ops Q (List.range' (i+j) (r+m')) a w:=by
  intro r
  induction r with
  | zero =>
   intro j a w hj hJ
   have hjk:j=k:=by omega
   subst hjk
   rw [Nat.zero_add]
   refine hnext a w ((XT (ops:=ol.toArray) hlen hJ ?_).pick _ _)
   intro j' o hj'
   have:j'<ol.length:=by rw [zF] at hj';exact (List.getElem?_eq_some_iff.1 hj').1
   rw [Nat.blt_eq];omega
  | succ r ih =>
   intro j a w hj hJ
   rw [show r+1+m'=(r+m')+1 by omega,List.range'_succ,wpOpsIn_cons]
   have hjl:j<ol.length:=by omega
   have hi:um ol j=some ol[j]:=by rw [zF];simp [hjl]
   refine wpOpIn_mono (K:=J B h0 Γ Λ F n ol sp (fun x=>bif Nat.beq x j then true else Nat.blt x j)) ?_ (V6 (hat j (by omega)) (fun o ho=>OL hng (by rwa [Array.getElem?_toList])) (P8 (ops:=ol.toArray) (draw:=false) DX hc Eo hi ?_ ?_ ?_ ?_ hJ))
   ·intro a w hJ'
    refine ih (j+1) a w (by omega) (HY (fun x o _=>?_) hJ')
    cases hb:Nat.beq x j with
    | true=>rw [iW] at hb;subst hb;simp [Nat.blt_eq]
    | false =>
     have:x≠j:=fun e=>by rw [iW.2 e] at hb;cases hb
     simp only [cond_false]
     rw [Bool.eq_iff_iff,Nat.blt_eq,Nat.blt_eq];omega
   ·rw [Bool.eq_false_iff,Ne,Nat.blt_eq];omega
   ·intro x hx;simpa [numOf] using hx
   ·intro x o' _ hx
    simp only [numOf,cond_false,Nat.blt_eq] at hx
    rw [Bool.eq_false_iff,Ne,Nat.blt_eq];omega
   ·intro x o' _ hx y hy
    simp only [numOf,cond_false,Nat.blt_eq] at hx hy ⊢
    omega
 rw [hm]
 exact key k 0 a w (by omega) (HY (fun j o _=>by rw [eq_comm,Bool.eq_false_iff,Ne,Nat.blt_eq];omega) (P9 hAt _ sp))
end
def Qa:List gq→KE→Prop
 | q :: r,p :: l=>q undef p.2∧Qa r l
 | [],[]=>True
 | _,_=>False
def jQ {S:Type} (mk:S→Value→List gq):gq:=fun v e=>∃ (s:S) (l:KE),Qa (mk s v) l∧FI l=true∧F6 l∧e=vC l
def Rz:List Nat→List gq→List (Nat×gq)
 | k :: ks,q :: r=>(k,q) :: Rz ks r
 | _,_=>[]
def Qb:List Nat→KE→KE
 | k :: ks,p :: l=>(k,p.2) :: Qb ks l
 | _,_=>[]
def XU:List gq→Prop
 | q :: r=>Gh q∧XU r
 | []=>True
theorem NE:∀ {l:KE} {ks:List Nat} {p:Nat×iV},p ∈ Qb ks l→∃ k,(k,p.2) ∈ l:=by
 intro l
 induction l with
 | nil=>intro ks p h;cases ks <;> cases h
 | cons x r ih =>
  intro ks p h
  cases ks with
  | nil=>cases h
  | cons k ks =>
   rcases List.mem_cons.1 h with rfl | h
   ·exact ⟨x.1,List.mem_cons_self⟩
   ·obtain ⟨k',h'⟩:=ih h;exact ⟨k',List.mem_cons_of_mem _ h'⟩
theorem RD {l:KE} {ks:List Nat} {c} (h:c ∈ (vC (Qb ks l)).claims):c ∈ (vC l).claims:=by
 obtain ⟨p,hp,hc⟩:=List.mem_flatMap.1 h
 obtain ⟨k,hk⟩:=NE hp
 exact List.mem_flatMap.2 ⟨_,hk,hc⟩
theorem V7:∀ {l:KE} {ks:List Nat},F6 l→F6 (Qb ks l):=by
 intro l
 induction l with
 | nil=>intro ks _;cases ks <;> exact List.Pairwise.nil
 | cons x r ih =>
  intro ks h
  cases ks with
  | nil=>exact List.Pairwise.nil
  | cons k ks =>
   obtain ⟨h1,h2⟩:=List.pairwise_cons.1 h
   exact List.pairwise_cons.2 ⟨fun p hp=>let ⟨k',hk'⟩:=NE hp;h1 (k',p.2) hk',ih h2⟩
theorem ZG {k:Nat}:∀ {qs:List gq} {l:KE} {ks:List Nat},Qa qs l→XU qs→qs.length=ks.length →
  (Vu (Rz ks qs) k=none∧EM (Qb ks l) k=none)∨∃ q e,Vu (Rz ks qs) k=some q∧EM (Qb ks l) k=some e∧q undef e∧Gh q:=by
 intro qs
 induction qs with
 | nil=>intro l ks hm _ hl;cases l with
  | nil=>cases ks <;> exact .inl ⟨rfl,rfl⟩
  | cons=>exact hm.elim
 | cons q qs ih =>
  intro l ks hm hg hl
  cases l with
  | nil=>exact hm.elim
  | cons p l=>cases ks with
   | nil=>cases hl
   | cons k0 ks =>
    simp only [Rz,Qb,Vu,EM]
    cases hb:Nat.beq k0 k with
    | true=>exact .inr ⟨q,p.2,rfl,rfl,hm.1,hg.1⟩
    | false=>exact ih hm.2 hg.2 (by simpa using hl)
section
variable {κ:Type} {B:Base} {h0:H} {Γ:Ctx} {Λ:Own} {F:κ→Option iV} {n:Nat} {a:Act} {w:World} {vM:Nat→Value} {pre:List (Nat×gq)} {post:List Po}
theorem At.U3 {S:Type} {mk:S→Value→List gq} (d:Nat) (ks:List Nat) (hlen:∀ s v,(mk s v).length=ks.length) (hG:∀ s v,XU (mk s v)) (hAt:At B h0 Γ Λ F n a w) (hs:Λ d=some (jQ mk)) :
  ∃ s sv,At B h0 (fun k=>bif Nat.beq d k then lW sv else Γ k) (fun k=>match Vu (Rz ks (mk s sv)) k with | some q=>some q | none=>bif Nat.beq d k then none else Λ k) F n a w:=by
 obtain ⟨h,L,hle,hst,rD,mJ,hsz,hdf⟩:=hAt
 obtain ⟨e,hL,s,l,hm,hnd,hdj,rfl⟩:=rD d _ hs
 have hst1:=hst.swap (e':=vC (Qb ks l)) hL (fun c hc=>⟨c,RD hc,rfl,Nat.le_refl _⟩) (fun p hp=>by
  obtain ⟨k,hk⟩:=NE hp
  exact (hst.own (k:=Sum.inl d) hL).2 (k,p.2) hk)
 have hst2:=hst1.splitK (g:=d) (l:=Qb ks l) ql (V7 hdj)
 refine ⟨s,a.gt d,h,_,hle,hst2,?_,?_,hsz,hdf⟩
 ·intro k q hq
  rcases ZG (k:=k) hm (hG s _) (hlen s _) with ⟨h1,h2⟩ | ⟨q',e,h1,h2,h3,h4⟩
  ·simp only [h1] at hq
   simp only [h2]
   cases hb:Nat.beq d k with
   | true=>rw [hb] at hq;cases hq
   | false =>
    rw [hb] at hq
    have hne:k≠d:=fun x=>by rw [iW.2 x.symm] at hb;cases hb
    obtain ⟨e,h5,h6⟩:=rD k q hq
    exact ⟨e,by rw [if_neg hne];simp [set1,hne,h5],h6⟩
  ·simp only [h1] at hq
   cases hq
   simp only [h2]
   exact ⟨e,rfl,h4 _ _ _ h3⟩
 ·intro k
  cases hb:Nat.beq d k with
  | true=>simp only [cond_true,hb];rw [iW] at hb;subst hb;exact rfl
  | false=>simp only [cond_false,hb];exact mJ k
def Uj (Λ:Own):List Nat→List gq→Prop
 | k :: ks,q :: r=>Λ k=some q∧Gh q∧Uj Λ ks r
 | [],[]=>True
 | _,_=>False
def H6 (ks:List Nat):List (Nat×gq)→Bool
 | []=>true
 | (k,_) :: r=>!(has ks k) && !(Nat.beq k 9999)&&H6 ks r
theorem NF {ks:List Nat}:∀ {l:List (Nat×gq)},H6 ks l=true→∀ k q,(k,q) ∈ l→has ks k=false∧k≠9999:=by
 intro l
 induction l with
 | nil=>intro _ k q h;cases h
 | cons x r ih =>
  intro h k q hk
  obtain ⟨k0,q0⟩:=x
  simp only [H6,Bool.and_eq_true,Bool.not_eq_true'] at h
  rcases List.mem_cons.1 hk with h1 | h1
  ·cases h1
   exact ⟨h.1.1,fun x=>by rw [iW.2 x] at h;exact absurd h.1.2 (by simp)⟩
  ·exact ih h.2 k q h1
theorem ZH {L:Nat→Option iV} (rD:NG Λ L a):∀ {ks:List Nat} {qs:List gq},Uj Λ ks qs→wV ks=true→∃ l:KE,Qa qs l∧FI l=true∧(∀ p ∈ l,L p.1=some p.2)∧∀ k,has ks k=false→EM l k=none:=by
 intro ks
 induction ks with
 | nil=>intro qs h _;cases qs with
  | nil=>exact ⟨[],trivial,rfl,⟨(fun p hp=>absurd hp List.not_mem_nil),fun _ _=>rfl⟩⟩
  | cons=>exact h.elim
 | cons k ks ih =>
  intro qs h hn
  cases qs with
  | nil=>exact h.elim
  | cons q qs =>
   obtain ⟨h1,h2,h3⟩:=h
   simp only [wV,Bool.and_eq_true,Bool.not_eq_true'] at hn
   obtain ⟨l,g1,g2,g3,g4⟩:=ih h3 hn.2
   obtain ⟨e,he,hq⟩:=rD k q h1
   refine ⟨(k,e) :: l,⟨h2 _ _ _ hq,g1⟩,?_,?_,?_⟩
   ·simp only [FI,g4 k hn.1,Option.isSome_none,Bool.not_false,Bool.true_and];exact g2
   ·intro p hp
    rcases List.mem_cons.1 hp with rfl | hp
    ·exact he
    ·exact g3 p hp
   ·intro k' hk'
    simp only [has,Bool.or_eq_false_iff] at hk'
    simp only [EM,hk'.1,cond_false]
    exact g4 k' hk'.2
theorem retGJ2 {fn:Func} {S:Type} {mk:S→Value→List gq} {R:Nat} {sv:Value} (s:S) (ks:List Nat) {rv:ResultVar} {g:bn} (hr:fn.results = #[.tmp R,rv]) (hR:Γ R=lW sv) (hks:Uj Λ ks (mk s sv)) (hn:(wV ks&&H6 ks pre)=true) (h1:LZ P Γ Λ rv g)
  (hA:PostA Γ Λ vM pre post) (hAt:At B h0 Γ Λ F n a w):GL P fn B h0 F vM pre post (some (TM (jQ mk))) (Iq bn.rW g) .ret a w:=by
 obtain ⟨h,L,hl,hst,rD,mJ,_,hdf⟩:=hAt
 rw [Bool.and_eq_true] at hn
 obtain ⟨l,g1,g2,g3,g4⟩:=ZH rD hks hn.1
 obtain ⟨v,hv,hp⟩:=h1 _ B F h a w L hst rD mJ
 have hRv:=mJ R
 rw [hR] at hRv
 have hRv:a.gt R=sv:=hRv
 have hv0:(resV a.tmps (.tmp R)).run P w = .ok (a.gt R) w:=rfl
 refine fun hB=>.inl ⟨hdf.trans hB,.tuple #[a.gt R,v],?_,_,h,_,rfl,hl,hst.vC 9999 g3,hA.ok rD mJ (fun k q hm=>?_),⟨vC l,if_pos rfl,a.gt R,v,rfl,s,l,by rw [hRv];exact g1,g2,Qc hst g3 g2,rfl⟩,_,_,rfl,trivial,hp⟩
 ·rw [zI];simp [hr,hv,hv0]
 ·obtain ⟨a1,a2⟩:=NF hn.2 k q hm
  simp only [if_neg a2,g4 k a1];rfl
end
theorem mY {sv sm:Value} {T T':TypeId} {r:Rep α} {ts:List dA} {s off:Nat} {x:Operand} {y:α} {get:α→Value} {set:α→Value→α} (l:Lens r Rep.FB off get set) (t:iy P T Rep.FB) (ho:o.op = .load T x) (hx:dG N x (Ae sv off)) (hg:get y=sm) :
  fG P o N [(s,iF (di T' r y ts) sv)] (lW sm) []:=by
 subst hg
 exact fG.out (f:=fV Rep.FB (get y)) rfl (fun _ _ _ hp=>Ry (z:=.map none) (hz:=rfl) hp) (iI l t ho hx)
theorem yt {f:FuncId} {args C:List bn} {pre:List (Nat×gq)} {post:List Po} {res:bn} {xs:List Operand} {gs:List Nat} {K:List (Nat×gq)} {U:Jm}
  (hc:mV P f (args ++ C) pre post none res) (hE:Jz P N o xs f C) (hd:qO (res :: args)=true) (vV:(EN pre gs && !(match o.dst with | some d=>has gs d | none=>false))=true)
  (hargs:xM N args xs) (hkey:sV N xs pre post gs) (hK:RF pre gs=K) (hU:IB gs post ++ Qd none o.dst=U):fG P o N K bn.rW U :=
 fG.out (f:=res) (by
  have:=pI hd res List.mem_cons_self
  rw [this];rfl) (fun _ _ _ _=>trivial) (fJ hc hE hd vV hargs hkey hK hU)
def KD {A C R:Type} (v:Option A×C) (f:C→Option R) (g:A→C→Option R):Option R:=match v with
 | (none,e)=>f e
 | (some x,e)=>g x e
theorem spN {A C R:Type} {f:C→Option R} {g:A→C→Option R} {e:C} {r:R} (H:KD (none,e) f g=some r):f e=some r:=H
theorem spS {A C R:Type} {f:C→Option R} {g:A→C→Option R} {x:A} {e:C} {r:R} (H:KD (some x,e) f g=some r):g x e=some r:=H
theorem Ui {T:TypeId} {r:Rep α} {ts:List dA} {x:Operand} {y:α} {d:Nat} (hd:o.dst=some d) (ho:o.op = .box T x) (hx:dG N x (fVN r y ts)):fG P o N [] bn.rW [(d,some (di T r y ts))]:=by
 intro κ B F L h a w hst hn _ hdn next Q hnext _
 obtain ⟨cs,hr,hv,hz⟩:=hx h a hn
 unfold Oper.qU
 have:(execOp a.eval o).run P w = .ok (.value (.pointer (some ⟨w.heap.size,0,none⟩))) (w.alloc (.cells cs.toArray T)):=by
  simp [execOp,ho,Instr.box,hv,AZ hr]
 rw [this]
 refine hnext _ h _ (set1 L d (jw w.heap.size T r y (GN ts))) (oU.refl h) trivial (hst.Ag _ d _ ?_ ⟨⟨_,Ah _ _,hr,hz.at⟩,fun u hu=>by rw [(H7 hu).1];trivial⟩) ?_
 ·intro c hc
  have:c ∈ (w.heap.size,0) :: GH (GN ts):=hc
  rw [JA] at this
  simp at this;rw [this]
 rw [hd]
 exact nC ⟨_,_,iE (hdn d hd),H8 ts,JB _ ts,rfl⟩
theorem At.Uh {κ:Type} {B:Base} {h0:H} {Γ:Ctx} {Λ:Own} {F:κ→Option iV} {n:Nat} {a:Act} {w:World} {f:α→Value} {rv:Rep β} {l:List (α×β)} (s g:Nat) (hsg:Nat.beq s g=false) (hAt:At B h0 Γ Λ F n a w) (hs:Λ s=some (dZ f rv l)) :
  ∃ sv,At B h0 (fun k=>bif Nat.beq s k then fV Rep.FB sv else Γ k) (fun k=>bif Nat.beq g k then some (iF (dZ f rv l) sv) else bif Nat.beq s k then none else Λ k) F n a w:=by
 obtain ⟨sv,h,L,hle,hst,rD,mJ,hsz,hdf⟩:=hAt.Rn s g hsg hs
 refine ⟨sv,h,L,hle,hst,rD,?_,hsz,hdf⟩
 obtain ⟨e,hL,b,hv,_⟩:=rD g (iF (dZ f rv l) sv) (by simp [Nat.beq_refl])
 intro k
 have:=mJ k
 cases hb:Nat.beq s k with
 | true =>
  simp only [hb,cond_true] at this ⊢
  have hg:a.gt k=sv:=this
  exact ⟨[sv],⟨rfl,by rw [hv];rfl⟩,by rw [hg];rfl⟩
 | false=>simp only [hb,cond_false] at this ⊢;exact this
theorem iteN {A:Type} {g:Bool} {a:Option A} {b v:A} (hg:¬ g=true) (h:(bif g then a else some b)=some v):b=v:=by
 cases g
 ·exact Option.some.inj h
 ·exact absurd rfl hg
theorem Dp.ye {X:Type} {YE:X→iV→Prop} {x x':X} {g:Nat} {d:Option Nat} (hd:Lr d g=true) (hx:x=x'):Dp [(g,yE YE x)] [(g,some (yE YE x'))] d:=by
 subst hx
 intro s e h
 simp only [sN] at h
 cases hb:Nat.beq g s with
 | true =>
  rw [hb] at h;cases h
  rw [iW] at hb;subst hb
  exact ⟨fun e=>by unfold Lr at hd;rw [e] at hd;simp [Nat.beq_refl] at hd,_,_,rfl,by simp,fun _ _ h=>h⟩
 | false=>rw [hb] at h;cases h
theorem opdNF:dG N (.const .nilFunc) (fV Rep.P5 none):=fun _ _ _=>ND.2 rfl
def KF {A R:Type} (v:A×Option Nat) (f:A→Option R) (g:A→Option R):Option R:=match v with
 | (x,none)=>f x
 | (x,some k)=>bif decide (0=k) then g x else none
theorem sjN {A R:Type} {f g:A→Option R} {x:A} {r:R} (H:KF (x,none) f g=some r):f x=some r:=H
theorem sjS {A R:Type} {f g:A→Option R} {x:A} {k:Nat} {r:R} (H:KF (x,some k) f g=some r):0=k∧g x=some r:=by
 unfold KF at H
 by_cases hk:0=k
 ·simp only [hk,decide_true,cond_true] at H;exact ⟨hk,H⟩
 ·simp only [hk,decide_false,cond_false] at H;cases H
end Go.KB
namespace Go.KB
variable {P:Program} {o:Oper} {N:List (Nat×bn)} {α β ρ:Type}
def KG:iV where
 claims:=[]
 ok:=fun _ _=>True
 mono:=fun _ x=>x
 frame:=fun _ x=>x
def XO (T:TypeId) (R:Rep (α×ρ)) (x:α) (ts:List dA) (J:ρ→iV→Prop):gq:=fun v e=>∃ p e1 e2,di T R (x,p) ts v e1∧J p e2∧e=BV e1 e2∧Gf e1.claims e2.claims
def jN:ρ→iV→Prop:=fun _ e=>e=KG
def jC (g:ρ→Value) (q:gq) (J:ρ→iV→Prop):ρ→iV→Prop:=fun p e=>∃ e2 e3,J p e2∧q (g p) e3∧e=BV e2 e3∧Gf e2.claims e3.claims
section
variable {κ:Type} {B:Base} {h:H} {L:Nat→Option iV} {F:κ→Option iV} {w:World}
def XV (e2:iV) (F:κ→Option iV):Option κ→Option iV
 | none=>some e2
 | some x=>F x
theorem St.I5 {s:Nat} {e1 e2:iV} (hst:St B h (Sum.elim L F) w) (hL:L s=some (BV e1 e2)) (hd:Gf e1.claims e2.claims):St B h (Sum.elim (set1 L s e1) (XV e2 F)) w:=by
 obtain ⟨hcl,hok⟩:=hst.own (k:=.inl s) hL
 have key:∀ (k:Nat ⊕ Option κ) e,Sum.elim (set1 L s e1) (XV e2 F) k=some e→(k = .inl s∧e=e1)∨(k = .inr none∧e=e2)∨∃ k',k' ≠ .inl s∧Sum.elim L F k'=some e∧k=(match k' with | .inl k=>.inl k | .inr x=>.inr (some x)):=by
  intro k e he
  cases k with
  | inl k =>
   by_cases hk:k=s
   ·subst hk;simp only [Sum.elim_inl,set1,if_true] at he;exact .inl ⟨rfl,(Option.some.inj he).symm⟩
   ·simp only [Sum.elim_inl,set1,if_neg hk] at he;exact .inr (.inr ⟨.inl k,fun x=>hk (Sum.inl.inj x),he,rfl⟩)
  | inr x=>cases x with
   | none=>exact .inr (.inl ⟨rfl,(Option.some.inj he).symm⟩)
   | some x=>exact .inr (.inr ⟨.inr x,(fun x=>by cases x),he,rfl⟩)
 refine ⟨hst.low,hst.base,fun x=>hst.ext x,?_,?_⟩
 ·intro k e he
  rcases key k e he with ⟨_,rfl⟩ | ⟨_,rfl⟩ | ⟨k',_,h2,_⟩
  ·exact ⟨fun c hc=>hcl c (List.mem_append_left _ hc),hok.1⟩
  ·exact ⟨fun c hc=>hcl c (List.mem_append_right _ hc),hok.2⟩
  ·exact hst.own h2
 ·intro k k' e e' he he' hne c hc c' hc'
  rcases key k e he with ⟨rfl,rfl⟩ | ⟨rfl,rfl⟩ | ⟨k1,h1,h2,rfl⟩
  ·rcases key k' e' he' with ⟨rfl,rfl⟩ | ⟨rfl,rfl⟩ | ⟨k2,h3,h4,rfl⟩
   ·exact absurd rfl hne
   ·exact hd c hc c' hc'
   ·exact hst.vF (k:=.inl s) hL h4 (fun x=>h3 x.symm) c (List.mem_append_left _ hc) c' hc'
  ·rcases key k' e' he' with ⟨rfl,rfl⟩ | ⟨rfl,rfl⟩ | ⟨k2,h3,h4,rfl⟩
   ·exact fun x=>hd c' hc' c hc x.symm
   ·exact absurd rfl hne
   ·exact hst.vF (k:=.inl s) hL h4 (fun x=>h3 x.symm) c (List.mem_append_right _ hc) c' hc'
  ·rcases key k' e' he' with ⟨rfl,rfl⟩ | ⟨rfl,rfl⟩ | ⟨k2,h3,h4,rfl⟩
   ·exact hst.vF h2 (k':=.inl s) hL h1 c hc c' (List.mem_append_left _ hc')
   ·exact hst.vF h2 (k':=.inl s) hL h1 c hc c' (List.mem_append_right _ hc')
   ·exact hst.vF h2 h4 (fun x=>hne (by rw [x])) c hc c' hc'
theorem St.joinF {s:Nat} {e1 e2:iV} (hst:St B h (Sum.elim L (XV e2 F)) w) (hL:L s=some e1):St B h (Sum.elim (set1 L s (BV e1 e2)) F) w∧Gf e1.claims e2.claims:=by
  have hN:Sum.elim L (XV e2 F) (.inr none)=some e2:=rfl
  have hd:Gf e1.claims e2.claims:=fun c hc c' hc'=>hst.vF (k:=.inl s) hL hN (fun x=>by cases x) c hc c' hc'
  have key:∀ (k:Nat ⊕ κ) e,Sum.elim (set1 L s (BV e1 e2)) F k=some e→(k = .inl s∧e=BV e1 e2)∨(k ≠ .inl s∧∃ k',k' ≠ .inl s∧k' ≠ .inr none∧Sum.elim L (XV e2 F) k'=some e∧k'=(match k with | .inl k=>.inl k | .inr x=>.inr (some x))):=by
    intro k e he
    cases k with
    | inl k =>
      by_cases hk:k=s
      · subst hk;simp only [Sum.elim_inl,set1,if_true] at he;exact .inl ⟨rfl,(Option.some.inj he).symm⟩
      · simp only [Sum.elim_inl,set1,if_neg hk] at he;exact .inr ⟨fun x=>hk (Sum.inl.inj x),.inl k,fun x=>hk (Sum.inl.inj x),(fun x=>by cases x),he,rfl⟩
    | inr x=>exact .inr ⟨(fun x=>by cases x),.inr (some x),(fun x=>by cases x),(fun x=>by cases x),he,rfl⟩
  refine ⟨⟨hst.low,hst.base,fun x=>hst.ext x,?_,?_⟩,hd⟩
  · intro k e he
    rcases key k e he with ⟨rfl,rfl⟩ | ⟨_,k',_,_,h2,_⟩
    · refine ⟨fun c hc => ?_, (hst.own (k := .inl s) hL).2, (hst.own hN).2⟩
      rcases List.mem_append.1 hc with hc | hc
      · exact (hst.own (k:=.inl s) hL).1 c hc
      · exact (hst.own hN).1 c hc
    · exact hst.own h2
  · intro k k' e e' he he' hne c hc c' hc'
    rcases key k e he with ⟨rfl,rfl⟩ | ⟨g1,k1,h1,h1',h2,e1'⟩
    · rcases key k' e' he' with ⟨rfl,rfl⟩ | ⟨g3,k2,h3,h3',h4,_⟩
      · exact absurd rfl hne
      · rcases List.mem_append.1 hc with hc | hc
        · exact hst.vF (k:=.inl s) hL h4 (fun x=>h3 x.symm) c hc c' hc'
        · exact hst.vF hN h4 (fun x=>h3' x.symm) c hc c' hc'
    · rcases key k' e' he' with ⟨rfl,rfl⟩ | ⟨g3,k2,h3,h3',h4,e2'⟩
      · rcases List.mem_append.1 hc' with hc' | hc'
        · exact hst.vF h2 (k':=.inl s) hL h1 c hc c' hc'
        · exact hst.vF h2 hN h1' c hc c' hc'
      · refine hst.vF h2 h4 (fun x => hne ?_) c hc c' hc'
        rw [e1',e2'] at x
        cases k <;> cases k' <;> simp_all
end
theorem NC {T T':TypeId} {R:Rep (α×ρ)} {rw':Rep Value} {ts:List dA} {s d off:Nat} {x0:Operand} {x:α} {J:ρ→iV→Prop} {q:gq} {g:ρ→Value} {set:ρ→Value→ρ}
  (l:Lens R rw' off (fun y=>g y.2) (fun y z=>(y.1,set y.2 z))) (t:iy P T rw') (hraw:rw'.sz=1∧rw'.agg=false) (hap:apartB off 1 ts=true) (hsd:Nat.beq s d=false) (hd:o.dst=none) (ho:o.op = .store T x0 (.tmp d)) (hx:dG N x0 (wZ s off))
  (hq:∀ h v e,q v e→rw'.rel h [v] v) (hJ:∀ p v e,J p e→J (set p v) e) (hg:∀ p v,g (set p v)=v):fG P o N [(s,XO T' R x ts J),(d,q)] bn.rW [(s,some (XO T' R x ts (jC g q J))),(d,none)]:=by
 have hne:s≠d:=fun x=>by rw [iW.2 x] at hsd;cases hsd
 intro κ B F L h a w hst hn hk _ next Q hnext _
 obtain ⟨b,hdv,hxv⟩:=hx h a hn
 obtain ⟨e,hL,p,e1,e2,hbx,hJ2,rfl,hdj0⟩:=hk.1
 obtain ⟨b',us,hv',hta,JC,rfl⟩:=hbx
 obtain ⟨e3,hL2,hq2⟩:=hk.2.1
 have hL2:L d=some e3:=hL2
 have hq2:q (a.gt d) e3:=hq2
 have hd':a.gt s = .pointer (some ⟨b,0,none⟩):=hdv
 rw [hd'] at hv';cases hv'
 have Uk:=hst.I5 hL hdj0
 obtain ⟨p0,c,q',hp,hrun,hcl,hmem,hrel,hget,hst'⟩:=A7 l t Uk ql JC (List.Sublist.refl us) (fun u hu=>by
  obtain ⟨t,ht,e⟩:=hta.XW u hu;rw [e,hraw.1];exact zN hap t ht) (c':=[a.gt d]) (z:=a.gt d) (hq h _ _ hq2)
 rw [EO] at hst'
 obtain ⟨hst1,hdj1⟩:=hst'.joinF ql
 rw [EO] at hst1
 unfold Oper.qU
 have:(execOp a.eval o).run P w = .ok .skip (w.setRow b (p0 ++ [a.gt d] ++ q').toArray):=by
  have hrun':(Instr.storeAt T (.pointer (some ⟨b,off,none⟩)) (a.eval (.tmp d))).run P w = .ok () (w.setRow b (p0 ++ [a.gt d] ++ q').toArray):=by
   have e:pack rw'.agg [a.gt d]=a.gt d:=by rw [hraw.2];rfl
   rw [e] at hrun;exact hrun
  simp only [execOp,ho,hxv,Sem.run_bind,hrun',Result.andThen_ok,Sem.run_pure]
 rw [this]
 have hLd:set1 L s (BV (jw b T' R (x,set p (a.gt d)) us) e2) d=some e3:=by simp [set1,Ne.symm hne,hL2]
 have hd13:Gf (BV (jw b T' R (x,set p (a.gt d)) us) e2).claims e3.claims:=hst1.vF (k:=Sum.inl s) (k':=Sum.inl d) ql hLd (fun x=>hne (Sum.inl.inj x))
 have hj:=hst1.zo (e:=BV (jw b T' R (x,set p (a.gt d)) us) (BV e2 e3)) ql hLd (fun c hc=>by
  rcases List.mem_append.1 hc with hc | hc
  ·exact .inl (List.mem_append_left _ hc)
  ·rcases List.mem_append.1 hc with hc | hc
   ·exact .inl (List.mem_append_right _ hc)
   ·exact .inr hc) ⟨(hst1.own (k:=Sum.inl s) ql).2.1,(hst1.own (k:=Sum.inl s) ql).2.2,(hst1.own (k:=Sum.inl d) hLd).2⟩
 have hL':zo (set1 L s (BV (jw b T' R (x,set p (a.gt d)) us) e2)) s d (BV (jw b T' R (x,set p (a.gt d)) us) (BV e2 e3))=zo L s d (BV (jw b T' R (x,set p (a.gt d)) us) (BV e2 e3)):=by
  funext k;unfold zo set1
  by_cases h1:k=d
  ·rw [if_pos h1,if_pos h1]
  ·rw [if_neg h1,if_neg h1]
   by_cases h2:k=s
   ·rw [if_pos h2,if_pos h2]
   ·rw [if_neg h2,if_neg h2,if_neg h2]
 rw [hL'] at hj
 refine hnext undef h _ _ (oU.refl h) trivial hj ?_
 rw [hd]
 refine KH hne ⟨set p (a.gt d),_,BV e2 e3,⟨b,us,hd',hta,JC,rfl⟩,⟨e2,e3,hJ _ _ _ hJ2,by rw [hg];exact hq2,rfl,?_⟩,rfl,?_⟩
 ·exact fun c hc c' hc'=>hd13 c (List.mem_append_right _ hc) c' hc'
 ·intro c hc c' hc'
  rcases List.mem_append.1 hc' with hc' | hc'
  ·exact hdj1 c hc c' hc'
  ·exact hd13 c (List.mem_append_left _ hc) c' hc'
section
variable {κ:Type} {B:Base} {h0:H} {Γ:Ctx} {Λ:Own} {F:κ→Option iV} {n:Nat} {a:Act} {w:World}
theorem At.toBx {T:TypeId} {rep:Rep α} {R:Rep (α×ρ)} {x:α} (s:Nat) (hin:∀ h cs,rep.rel h cs x→∃ p,R.rel h cs (x,p)) (hAt:At B h0 Γ Λ F n a w) (hs:Λ s=some (bf T rep x)) :
  At B h0 Γ (fun k=>bif Nat.beq s k then some (XO T R x [] jN) else Λ k) F n a w:=by
 obtain ⟨h,L,hle,hst,rD,mJ,hsz,hdf⟩:=hAt
 obtain ⟨e,hL,b,hv,rfl⟩:=rD s _ hs
 obtain ⟨cs,hb,hr⟩:=Gz hst hL
 obtain ⟨p,hp⟩:=hin h cs hr
 have hst':=hst.swap (e':=BV (jw b T R (x,p) []) KG) hL (fun c hc=>⟨c,by simpa [BV,jw,vU,GH,KG] using hc,rfl,Nat.le_refl _⟩) ⟨⟨⟨cs,hb,hp,fun u hu=>by cases hu⟩,fun u hu=>by cases hu⟩,trivial⟩
 refine ⟨h,_,hle,hst',?_,mJ,hsz,hdf⟩
 intro k q hq
 cases hk:Nat.beq s k with
 | true =>
  simp only [hk,cond_true] at hq
  cases hq
  rw [iW] at hk;subst hk
  exact ⟨_,ql,p,_,_,⟨b,[],hv,trivial,⟨List.Pairwise.nil,fun u hu=>by cases hu⟩,rfl⟩,rfl,rfl,fun c hc c' hc'=>by cases hc'⟩
 | false =>
  simp only [hk,cond_false] at hq
  obtain ⟨e,he,hqe⟩:=rD k q hq
  have:k≠s:=fun x=>by rw [iW.2 x.symm] at hk;cases hk
  exact ⟨e,by simp [set1,this,he],hqe⟩
theorem At.congrO {Λ':Own} (h:∀ k,Λ k=Λ' k) (hAt:At B h0 Γ Λ F n a w):At B h0 Γ Λ' F n a w:=by rw [← funext h];exact hAt
theorem At.Vw {s g:Nat} {Q:gq} {P1 P2:Value→iV→Prop} (hsg:Nat.beq s g=false) (hAt:At B h0 Γ Λ F n a w) (hs:Λ s=some Q) (hQ:∀ v e,Q v e→∃ e1 e2,P1 v e1∧P2 v e2∧e=BV e1 e2∧Gf e1.claims e2.claims) (h2:∀ v v' e,P2 v e→P2 v' e) :
  At B h0 Γ (fun k=>bif Nat.beq s k then some P1 else bif Nat.beq g k then some P2 else Λ k) F n a w:=by
 obtain ⟨h,L,hle,hst,rD,mJ,hsz,hdf⟩:=hAt
 obtain ⟨e,hL,hq⟩:=rD s _ hs
 obtain ⟨e1,e2,k1,k2,rfl,hd⟩:=hQ _ _ hq
 have hne:s≠g:=fun x=>by rw [iW.2 x] at hsg;cases hsg
 obtain ⟨_,o1,o2⟩:=hst.own (k:=Sum.inl s) hL
 have hst':=hst.split2 (d:=g) (e1:=e1) (e2:=e2) hL hne (fun c hc=>List.mem_append_left _ hc) (fun c hc=>List.mem_append_right _ hc) hd o1 o2
 refine ⟨h,_,hle,hst',?_,mJ,hsz,hdf⟩
 intro k q hq
 cases hk:Nat.beq s k with
 | true =>
  simp only [hk,cond_true] at hq
  cases hq
  rw [iW] at hk;subst hk
  exact ⟨e1,by simp [set1,hne],k1⟩
 | false =>
  simp only [hk,cond_false] at hq
  cases hk2:Nat.beq g k with
  | true =>
   simp only [hk2,cond_true] at hq
   cases hq
   rw [iW] at hk2;subst hk2
   exact ⟨e2,by simp [set1],h2 _ _ _ k2⟩
  | false =>
   simp only [hk2,cond_false] at hq
   obtain ⟨e,he,hqe⟩:=rD k q hq
   have h3:k≠s:=fun x=>by rw [iW.2 x.symm] at hk;cases hk
   have h4:k≠g:=fun x=>by rw [iW.2 x.symm] at hk2;cases hk2
   exact ⟨e,by simp [set1,h3,h4,he],hqe⟩
def blob (J:ρ→iV→Prop) (p:ρ):gq:=fun _ e=>J p e
theorem At.ZE {T:TypeId} {R:Rep (α×ρ)} {x:α} {ts:List dA} {J:ρ→iV→Prop} (s g:Nat) (hsg:Nat.beq s g=false) (hAt:At B h0 Γ Λ F n a w) (hs:Λ s=some (XO T R x ts J)) :
  ∃ p,At B h0 Γ (fun k=>bif Nat.beq s k then some (di T R (x,p) ts) else bif Nat.beq g k then some (blob J p) else Λ k) F n a w:=by
 have hAt0:=hAt
 obtain ⟨h,L,hle,hst,rD,mJ,hsz,hdf⟩:=hAt
 obtain ⟨e,hL,p,e1,e2,h1,h2,he,hd⟩:=rD s _ hs
 have hX:At B h0 Γ (fun k=>bif Nat.beq s k then some (fun v e'=>v=a.gt s∧e'=e) else Λ k) F n a w:=by
  refine ⟨h,L,hle,hst,?_,mJ,hsz,hdf⟩
  intro k q hq
  cases hk:Nat.beq s k with
  | true=>simp only [hk,cond_true] at hq;cases hq;rw [iW] at hk;subst hk;exact ⟨e,hL,rfl,rfl⟩
  | false=>simp only [hk,cond_false] at hq;exact rD k q hq
 refine ⟨p,At.congrO (fun k=>?_) (hX.Vw (Q:=fun v e'=>v=a.gt s∧e'=e) (P1:=di T R (x,p) ts) (P2:=blob J p) hsg (by simp [Nat.beq_refl]) (fun v e' ⟨hv,he'⟩=>⟨e1,e2,by rw [hv];exact h1,h2,he'.trans he,hd⟩) (fun _ _ _ h=>h))⟩
 cases hk:Nat.beq s k with
 | true=>rfl
 | false=>simp only [cond_false]
theorem At.Eg {J:ρ→iV→Prop} {gf:ρ→Value} {q:gq} {p:ρ} (g g2:Nat) (hsg:Nat.beq g g2=false) (hAt:At B h0 Γ Λ F n a w) (hs:Λ g=some (blob (jC gf q J) p)) :
  At B h0 Γ (fun k=>bif Nat.beq g k then some (blob J p) else bif Nat.beq g2 k then some (iF q (gf p)) else Λ k) F n a w :=
 hAt.Vw hsg hs (fun _ _ ⟨e2,e3,h1,h2,he,hd⟩=>⟨e2,e3,h1,h2,he,hd⟩) (fun _ _ _ h=>h)
theorem At.XP {T E1 E2:TypeId} {rep:Rep α} {R:Rep (α×Value×Value)} {q1:Rep β} {q2:Rep ρ} {x y:α} {v1 v2:Value} {ys1:List β} {ys2:List ρ} (s g1 g2:Nat) (hne:(!(Nat.beq s g1) && !(Nat.beq s g2) && !(Nat.beq g1 g2))=true) (hAt:At B h0 Γ Λ F n a w)
  (hs:Λ s=some (di T R (x,v1,v2) [])) (h1:Λ g1=some (dO v1 E1 q1 ys1)) (h2:Λ g2=some (dO v2 E2 q2 ys2))
  (hout:∀ h cs,R.rel h cs (x,v1,v2)→(Rep.slice q1).rel h [v1] ys1→(Rep.slice q2).rel h [v2] ys2→rep.rel h cs y) :
  At B h0 Γ (fun k=>bif Nat.beq s k then some (bf T rep y) else bif Nat.beq g1 k then none else bif Nat.beq g2 k then none else Λ k) F n a w:=by
 simp only [Bool.and_eq_true,Bool.not_eq_true'] at hne
 obtain ⟨⟨n1,n2⟩,n3⟩:=hne
 have n1:s≠g1:=fun x=>by rw [iW.2 x] at n1;cases n1
 have n2:s≠g2:=fun x=>by rw [iW.2 x] at n2;cases n2
 have n3:g1≠g2:=fun x=>by rw [iW.2 x] at n3;cases n3
 obtain ⟨h,L,hle,hst,rD,mJ,hsz,hdf⟩:=hAt
 obtain ⟨e,hL,b,us,hv,hta,JC,rfl⟩:=rD s _ hs
 have hus:us=[]:=by cases us with
  | nil=>rfl
  | cons _ _=>exact hta.elim
 subst hus
 obtain ⟨eg1,hLg1,hqg1⟩:=rD g1 _ h1
 obtain ⟨eg2,hLg2,hqg2⟩:=rD g2 _ h2
 obtain ⟨h',hl,hst',hsl⟩:=hst.Qe (Sum.inl g1) (L':=Sum.elim (fun k=>if k=g1 then none else L k) F) hLg1 hqg1 (by
  intro k' e' hne he
  cases k' with
  | inr k=>exact he
  | inl k =>
   have:k≠g1:=fun x=>hne (by rw [x])
   simpa [this] using he) (by simp)
 obtain ⟨h'',hl',hst'',hsl'⟩:=hst'.Qe (Sum.inl g2) (L':=Sum.elim (fun k=>if k=g2 then none else if k=g1 then none else L k) F) (by simp [Ne.symm n3];exact hLg2) hqg2 (by
  intro k' e' hne he
  cases k' with
  | inr k=>exact he
  | inl k =>
   have:k≠g2:=fun x=>hne (by rw [x])
   simpa [this] using he) (by simp)
 have hLs:(fun k=>if k=g2 then none else if k=g1 then none else L k) s=some (jw b T R (x,v1,v2) []):=by simp [n1,n2,hL]
 obtain ⟨⟨cs,hb,hr,hu1⟩,hu2⟩:=zf hst'' hLs
 have hst2:=hst''.swap (e':=vU b T rep y) hLs (fun c hc=>⟨c,by simpa [jw,vU,GH] using hc,rfl,Nat.le_refl _⟩) ⟨cs,hb,hout _ _ hr ((Rep.slice q1).mono hl' hsl) hsl'⟩
 refine ⟨h'',_,(hle.trans hl).trans hl',hst2,?_,fun k=>(Γ k).mono (hl.trans hl') (mJ k),hsz,hdf⟩
 intro k Q hq
 cases hk:Nat.beq s k with
 | true =>
  simp only [hk,cond_true] at hq
  cases hq
  rw [iW] at hk;subst hk
  exact ⟨_,ql,b,hv,rfl⟩
 | false =>
  simp only [hk,cond_false] at hq
  cases hk2:Nat.beq g1 k with
  | true=>simp only [hk2,cond_true] at hq;cases hq
  | false =>
   simp only [hk2,cond_false] at hq
   cases hk3:Nat.beq g2 k with
   | true=>simp only [hk3,cond_true] at hq;cases hq
   | false =>
    simp only [hk3,cond_false] at hq
    obtain ⟨e,he,hqe⟩:=rD k Q hq
    have h3:k≠s:=fun x=>by rw [iW.2 x.symm] at hk;cases hk
    have h4:k≠g1:=fun x=>by rw [iW.2 x.symm] at hk2;cases hk2
    have h5:k≠g2:=fun x=>by rw [iW.2 x.symm] at hk3;cases hk3
    exact ⟨e,by simp [set1,h3,h4,h5,he],hqe⟩
end
theorem Jb {T T':TypeId} {R:Rep (α×ρ)} {x:α} {ts:List dA} {J:ρ→iV→Prop} {s i off:Nat} (hf:cu P T i off) (ho:o.op = .fieldAddr T (.tmp s) i):fG P o N [(s,XO T' R x ts J)] (wZ s off) []:=by
 intro κ B F L h a w hst hn hk hdn next Q hnext hns
 obtain ⟨e,hL,p,e1,e2,⟨b,us,hv,hta,JC,rfl⟩,hJ,rfl,hd⟩:=hk.1
 have hv:a.eval (.tmp s) = .pointer (some ⟨b,0,none⟩):=hv
 unfold Oper.qU
 have:(execOp a.eval o).run P w = .ok (.value (.pointer (some ⟨b,off,none⟩))) w:=by
  simp [execOp,ho,hv,hf b 0 w]
 rw [this]
 exact hnext _ h w L (oU.refl h) ⟨b,hv,rfl⟩ hst oN
theorem LY {T T':TypeId} {R:Rep (α×ρ)} {q:Rep β} {ts:List dA} {s off:Nat} {x0 v:Operand} {x x':α} {z:β} {J:ρ→iV→Prop} {get:α→β} {set:α→β→α}
  (l:Lens R q off (fun y=>get y.1) (fun y z=>(set y.1 z,y.2))) (t:iy P T q) (hap:apartB off q.sz ts=true) (hd:o.dst=none) (ho:o.op = .store T x0 v) (hx:dG N x0 (wZ s off)) (hv:dG N v (fV q z)) (hx':x'=set x z) :
  fG P o N [(s,XO T' R x ts J)] bn.rW [(s,some (XO T' R x' ts J))]:=by
 subst hx'
 intro κ B F L h a w hst hn hk _ next Q hnext _
 obtain ⟨b,hdv,hxv⟩:=hx h a hn
 obtain ⟨e,hL,p,e1,e2,hbx,hJ2,rfl,hdj0⟩:=hk.1
 obtain ⟨b',us,hv',hta,JC,rfl⟩:=hbx
 have hd':a.gt s = .pointer (some ⟨b,0,none⟩):=hdv
 rw [hd'] at hv';cases hv'
 obtain ⟨c',hc',hvv⟩:=hv h a hn
 have Uk:=hst.I5 hL hdj0
 obtain ⟨p0,c,q',hp,hrun,hcl,hmem,hrel,hget,hst'⟩:=A7 l t Uk ql JC (List.Sublist.refl us) (fun u hu=>by
  obtain ⟨t,ht,e⟩:=hta.XW u hu;rw [e];exact zN hap t ht) hc'
 rw [EO] at hst'
 obtain ⟨hst1,hdj1⟩:=hst'.joinF ql
 rw [EO] at hst1
 unfold Oper.qU
 have:(execOp a.eval o).run P w = .ok .skip (w.setRow b (p0 ++ c' ++ q').toArray):=by
  simp only [execOp,ho,hxv,hvv,Sem.run_bind,hrun,Result.andThen_ok,Sem.run_pure]
 rw [this]
 refine hnext undef h _ _ (oU.refl h) trivial hst1 ?_
 rw [hd]
 exact nC ⟨p,_,e2,⟨b,us,hd',hta,JC,rfl⟩,hJ2,rfl,hdj1⟩
theorem ZC {g:ρ→Value} {q:gq} {J:ρ→iV→Prop} {set:ρ→Value→ρ} {p:ρ} {v:Value} {e:iV} (hg:∀ p v,g (set p v)=g p) (hJ:∀ {e},J p e→J (set p v) e) (h:jC g q J p e):jC g q J (set p v) e:=by
 obtain ⟨e2,e3,h1,h2,h3,h4⟩:=h
 exact ⟨e2,e3,hJ h1,by rw [hg];exact h2,h3,h4⟩
theorem Rx {E:TypeId} {r:Rep α} {xs:List α} {h:H} {v:Value} {e:iV} (k:fD E r xs v e):Rep.raw.rel h [v] v:=by
 rcases k with ⟨⟨base,rfl⟩,_⟩ | ⟨b,cap,rfl,_⟩ <;> exact ⟨rfl,rfl⟩
end Go.KB
namespace Go.KB
variable {P:Program} {o:Oper} {N:List (Nat×bn)} {α β:Type}
theorem Lp {T E:TypeId} {r:Rep α} {s lo n:Nat} {x:Operand} {xs ys:List α} (hlo:(Nat.beq (lo+n) xs.length)=true) (hys:ys=xs.take lo ++ List.replicate n r.zero) (t:iy P E r) (hT:P.underlying T=some (.slice E)) (hd:o.dst=none) (ho:o.op = .call { callee:=.builtin .clear,args:=#[x],argTypes:=#[T] })
    (hx:dG N x (fSub s r.sz lo n)):fG P o N [(s,fD E r xs)] bn.rW [(s,some (fD E r ys))]:=by
  have hlo:lo+n=xs.length:=by simpa using hlo
  intro κ B F L h a w hst hn hk _ next Q hnext _
  obtain ⟨e,hL,hq⟩:=hk.1
  have hL:L s=some e:=hL
  have hq:fD E r xs (a.gt s) e:=hq
  have hxv:(∃ base,a.gt s = .slice base 0 0∧a.eval x = .slice base 0 0∧lo=0∧n=0)∨∃ b p L cap,a.gt s = .slice (some ⟨b,p,none⟩) L cap∧lo+n≤L∧a.eval x = .slice (some ⟨b,if cap=lo then p else p+lo * r.sz,none⟩) n (cap - lo):=hx h a hn
  unfold Oper.qU
  have hrun:∀ w',(Builtin.clear_ #[T] o.type #[a.eval x]).run P w = .ok (.tuple #[]) w'→(execOp a.eval o).run P w = .ok (.value (.tuple #[])) w':=by
    intro w' hr
    simp only [execOp,ho,resolve,invoke,builtin,Sem.run_bind,Sem.run_pure,Result.andThen_ok,List.map_toArray,List.map_cons,List.map_nil,hr]
  by_cases hn0:n=0
  · subst hn0
    have hyx:ys=xs:=by rw [hys,List.take_of_length_le (by omega)];simp
    subst hyx
    have hev:∃ base cap,a.eval x = .slice base 0 cap:=by
      rcases hxv with ⟨base,_,h2,_⟩ | ⟨b,p,L,cap,_,_,h3⟩
      · exact ⟨_,_,h2⟩
      · exact ⟨_,_,h3⟩
    obtain ⟨base,cap,hev⟩:=hev
    rw [hrun w (by rw [hev];cases base <;> simp [Builtin.clear_,run_underlying hT])]
    refine hnext _ h w L (oU.refl h) trivial hst ?_
    rw [hd]
    have:=nC (L:=L) (s:=s) (e:=e) (d:=none) (a:=a.put none (.tuple #[])) (q:=fD E r ys) hq
    rwa [H9 hL] at this
  · rcases hq with ⟨⟨base',hv'⟩,rfl,rfl⟩ | ⟨b,cap,hv',hc,rfl⟩
    · simp at hlo;omega
    · rcases hxv with ⟨_,_,_,_,h4⟩ | ⟨b',p,L',cap',h1,h2,h3⟩
      · exact absurd h4 hn0
      · rw [hv'] at h1;cases h1
        obtain ⟨cs,rest,hb,hr,hlen⟩:=Jc hst hL
        rw [if_neg (by omega),Nat.zero_add] at h3
        have hzc:(pack r.agg r.zc).cells=r.zc.toArray:=uJ (r.yc h)
        have hzl:(Builtin.zeroCells (pack r.agg r.zc).cells n).toList=(List.replicate n r.zc).flatten:=by rw [hzc];exact GR r.zc n
        obtain ⟨c1,c2,rfl,hr1⟩:=hr.take lo (by omega)
        have hl1:c1.length=lo * r.sz:=by rw [hr1.len,List.length_take,Nat.min_eq_left (by omega)]
        have hlc:=hr.len
        rw [List.length_append,hl1,← hlo,Nat.add_mul] at hlc
        have hl2:c2.length=n * r.sz:=by omega
        have hZl:=Vx r n
        generalize hZ:(List.replicate n r.zc).flatten=Z at hzl hZl
        have hone:=Ul (r:=r) n
        have Uk:=run_storeCells_at P b (lo * r.sz) E (Builtin.zeroCells (pack r.agg r.zc).cells n).toList 0 ((c1 ++ c2) ++ rest).toArray w hb (by rw [hzl,hZl];simp;omega) hone
        simp only [Nat.add_zero] at Uk
        have hnew:((c1 ++ c2) ++ rest).toArray.toList.take (lo * r.sz) ++ (Builtin.zeroCells (pack r.agg r.zc).cells n).toList ++ ((c1 ++ c2) ++ rest).toArray.toList.drop (lo * r.sz+(Builtin.zeroCells (pack r.agg r.zc).cells n).toList.length)=(c1 ++ Z) ++ rest:=by
          rw [hzl,hZl,← hl1,← hl2]
          simp [List.drop_append]
        rw [hnew] at Uk
        obtain ⟨n',rfl⟩:∃ n',n=n'+1:=⟨n - 1,by omega⟩
        rw [hrun (w.setRow b ((c1 ++ Z) ++ rest).toArray) (by rw [h3];simp [Builtin.clear_,run_underlying hT,t.zero,Uk])]
        obtain ⟨hcl,_⟩:=hst.own (k:=Sum.inl s) hL
        have hno:=(hcl (b,0) (by simp [qQ])).2.2
        have hmem:=xN w b ((c1 ++ c2) ++ rest).toArray ((c1 ++ Z) ++ rest).toArray E hb
        have hyl:ys.length=xs.length:=by rw [hys];simp;omega
        refine hnext _ h _ (set1 L s (qQ b E r ys cap)) (oU.refl h) trivial ?_ ?_
        · refine hst.write (Sum.inl s) (e := qQ b E r xs cap) hL (b := b) (lo := 0) (by simp [qQ]) hmem (fun i hi => setRow_other w b i _ hi) (by simp [World.setRow]) rfl rfl rfl ?_ sW ?_
          · intro o' u hh;rw [hno o' (Nat.zero_le _)] at hh;cases hh
          · intro e' he
            rw [sZ he]
            refine ⟨fun c hc=>hc,c1 ++ Z,rest,hmem,?_,?_⟩
            · rw [hys,← hZ];exact hr1.append (uN.zeros r h _)
            · rw [← hlen];simp [hZl];omega
        · rw [hd]
          exact nC (.inr ⟨b,cap,by rw [hyl];exact hv',by rw [hyl];exact hc,rfl⟩)
theorem clr_b {b:Bool} {l r:List α} (h:(bif b then some l else none)=some r):b=true:=by cases b with
 | true=>rfl
 | false=>cases h
theorem clr_e {b:Bool} {l r:List α} (h:(bif b then some l else none)=some r):r=l:=by cases b with
 | true=>cases h;rfl
 | false=>cases h
end Go.KB
namespace Go.KB
variable {P:Program} {o:Oper} {N:List (Nat×bn)} {α β ρ:Type}
def Ri (q:Rep β) (sv:Value) (ys:List β):bn:=⟨none,fun h _ _=>(Rep.slice q).rel h [sv] ys,fun hl k=>(Rep.slice q).mono hl k⟩
def TQ (R:Rep (α×ρ)) (x:α):bn:=⟨none,fun h _ v=>∃ p,R.val h v (x,p),fun hl ⟨p,k⟩=>⟨p,R.JD hl k⟩⟩
theorem U6 {q:Rep β} {v:Value} {ys:List β} {x:Operand} {g:Nat} (hx:dG N x (fV Rep.raw v)) (hg:dG N (.tmp g) (Ri q v ys)):dG N x (fV (Rep.slice q) ys):=fun h a n=>⟨[v],hg h a n,by rw [MJ (hx h a n)];rfl⟩
theorem BL {R:Rep α} {off:Nat} {get:α→Value} {set:α→Value→α} {h:H} {cs:List Value} {y:α} (l:Lens R Rep.raw off get set) (k:R.rel h cs y):cs[off]? = some (get y):=by
 obtain ⟨p,c,s,rfl,hp,hc,_⟩:=l h cs y k
 rw [show c=[get y] from hc.1,List.append_assoc,List.getElem?_append_right (by omega),hp]
 simp
def jA (off:Nat) (q:gq) (J:List Value→iV→Prop):List Value→iV→Prop:=fun cs e=>∃ sv e2 e3,cs[off]? = some sv∧J cs e2∧q sv e3∧e=BV e2 e3∧Gf e2.claims e3.claims
def jA0:List Value→iV→Prop:=fun _ e=>e=KG
def Nb (J:List Value→iV→Prop):gq:=fun v e=>∃ cs:List Value,v = .agg cs.toArray∧J cs e
theorem Le {off:Nat} {q:gq} {J:List Value→iV→Prop} {J':ρ→iV→Prop} {g:ρ→Value} {cs:List Value} {p:ρ} (hc:cs[off]? = some (g p)) (hJ:∀ e,J cs e→J' p e):∀ e,jA off q J cs e→jC g q J' p e:=by
 rintro e ⟨sv,e2,e3,h1,h2,h3,h4,h5⟩
 rw [hc] at h1;cases h1
 exact ⟨e2,e3,hJ _ h2,h3,h4,h5⟩
theorem U8 {off:Nat} {q:gq} {J:List Value→iV→Prop} {J':ρ→iV→Prop} {g:ρ→Value} {cs:List Value} {p:ρ} (hc:cs[off]? = some (g p)) (hJ:∀ e,J' p e→J cs e):∀ e,jC g q J' p e→jA off q J cs e:=by
 rintro e ⟨e2,e3,h2,h3,h4,h5⟩
 exact ⟨g p,e2,e3,hc,hJ _ h2,h3,h4,h5⟩
section
variable {κ:Type} {B:Base} {h0:H} {Γ:Ctx} {Λ:Own} {F:κ→Option iV} {n:Nat} {a:Act} {w:World}
theorem own_ne {s k:Nat} (h:Nat.beq s k=false):k≠s:=fun x=>by rw [iW.2 x.symm] at h;cases h
theorem At.jB {sv:Value} {E:TypeId} {q:Rep β} {ys:List β} (g:Nat) (hAt:At B h0 Γ Λ F n a w) (hg:Λ g=some (dO sv E q ys)) :
  At B h0 (fun k=>bif Nat.beq g k then Ri q sv ys else Γ k) (fun k=>bif Nat.beq g k then none else Λ k) F n a w:=by
 obtain ⟨h,L,hle,hst,rD,mJ,hsz,hdf⟩:=hAt
 obtain ⟨eg,hLg,hqg⟩:=rD g _ hg
 obtain ⟨h',hl,hst',hsl⟩:=hst.Qe (Sum.inl g) (L':=Sum.elim (fun k=>if k=g then none else L k) F) hLg hqg (by
  intro k' e' hne he
  cases k' with
  | inr k=>exact he
  | inl k =>
   have:k≠g:=fun x=>hne (by rw [x])
   simpa [this] using he) (by simp)
 refine ⟨h',_,hle.trans hl,hst',?_,?_,hsz,hdf⟩
 ·intro k Q hq
  cases hk:Nat.beq g k with
  | true=>simp only [hk,cond_true] at hq;cases hq
  | false =>
   simp only [hk,cond_false] at hq
   obtain ⟨e,he,hqe⟩:=rD k Q hq
   exact ⟨e,by simp [own_ne hk,he],hqe⟩
 ·intro k
  show bn.at (bif Nat.beq g k then Ri q sv ys else Γ k) h' a k
  cases hk:Nat.beq g k with
  | true=>exact hsl
  | false=>exact (Γ k).mono hl (mJ k)
theorem At.pR {T:TypeId} {R:Rep α} {R':Rep β} {y:α} {y':β} (s:Nat) (hAt:At B h0 Γ Λ F n a w) (hs:Λ s=some (di T R y [])) (hmap:∀ h cs,Sat Γ h a→R.rel h cs y→R'.rel h cs y') :
  At B h0 Γ (fun k=>bif Nat.beq s k then some (di T R' y' []) else Λ k) F n a w:=by
 obtain ⟨h,L,hle,hst,rD,mJ,hsz,hdf⟩:=hAt
 obtain ⟨e,hL,b,us,hv,hta,JC,rfl⟩:=rD s _ hs
 obtain ⟨⟨cs,hb,hr,hu1⟩,hu2⟩:=zf hst hL
 have hst':=hst.swap (e':=jw b T R' y' us) hL (fun c hc=>⟨c,hc,rfl,Nat.le_refl _⟩) ⟨⟨cs,hb,hmap h cs mJ hr,hu1⟩,hu2⟩
 refine ⟨h,_,hle,hst',?_,mJ,hsz,hdf⟩
 intro k q hq
 cases hk:Nat.beq s k with
 | true =>
  simp only [hk,cond_true] at hq
  cases hq
  rw [iW] at hk;subst hk
  exact ⟨_,ql,b,us,hv,hta,JC,rfl⟩
 | false =>
  simp only [hk,cond_false] at hq
  obtain ⟨e,he,hqe⟩:=rD k q hq
  exact ⟨e,by simp [set1,own_ne hk,he],hqe⟩
theorem At.boxTE {T:TypeId} {R:Rep α} {y:α} (s:Nat) (hAt:At B h0 Γ Λ F n a w) (hs:Λ s=some (di T R y [])):At B h0 Γ (fun k=>bif Nat.beq s k then some (bf T R y) else Λ k) F n a w:=by
 obtain ⟨h,L,hle,hst,rD,mJ,hsz,hdf⟩:=hAt
 obtain ⟨e,hL,b,us,hv,hta,JC,rfl⟩:=rD s _ hs
 have hus:us=[]:=by cases us with
  | nil=>rfl
  | cons _ _=>exact hta.elim
 subst hus
 obtain ⟨⟨cs,hb,hr,hu1⟩,hu2⟩:=zf hst hL
 have hst':=hst.swap (e':=vU b T R y) hL (fun c hc=>⟨c,by simpa [jw,vU,GH] using hc,rfl,Nat.le_refl _⟩) ⟨cs,hb,hr⟩
 refine ⟨h,_,hle,hst',?_,mJ,hsz,hdf⟩
 intro k q hq
 cases hk:Nat.beq s k with
 | true =>
  simp only [hk,cond_true] at hq
  cases hq
  rw [iW] at hk;subst hk
  exact ⟨_,ql,b,hv,rfl⟩
 | false =>
  simp only [hk,cond_false] at hq
  obtain ⟨e,he,hqe⟩:=rD k q hq
  exact ⟨e,by simp [set1,own_ne hk,he],hqe⟩
theorem At.toBoxN {T:TypeId} {rep:Rep α} {R:Rep (α×ρ)} {x:α} {G:ρ→H→Prop} (s:Nat) (hin:∀ h cs,rep.rel h cs x→∃ p,R.rel h cs (x,p)∧G p h) (hG:∀ p h h',oU h h'→G p h→G p h') (hAt:At B h0 Γ Λ F n a w) (hs:Λ s=some (bf T rep x)) (g:Nat) :
  ∃ p,At B h0 (fun k=>bif Nat.beq g k then ⟨none,fun h _ _=>G p h,fun hl k=>hG _ _ _ hl k⟩ else Γ k) (fun k=>bif Nat.beq s k then some (di T R (x,p) []) else Λ k) F n a w:=by
 obtain ⟨h,L,hle,hst,rD,mJ,hsz,hdf⟩:=hAt
 obtain ⟨e,hL,b,hv,rfl⟩:=rD s _ hs
 obtain ⟨cs,hb,hr⟩:=Gz hst hL
 obtain ⟨p,hp,hg⟩:=hin h cs hr
 have hst':=hst.swap (e':=jw b T R (x,p) []) hL (fun c hc=>⟨c,by simpa [jw,vU,GH] using hc,rfl,Nat.le_refl _⟩) ⟨⟨cs,hb,hp,fun u hu=>by cases hu⟩,fun u hu=>by cases hu⟩
 refine ⟨p,h,_,hle,hst',?_,?_,hsz,hdf⟩
 ·intro k q hq
  cases hk:Nat.beq s k with
  | true =>
   simp only [hk,cond_true] at hq
   cases hq
   rw [iW] at hk;subst hk
   exact ⟨_,ql,b,[],hv,trivial,⟨List.Pairwise.nil,fun u hu=>by cases hu⟩,rfl⟩
  | false =>
   simp only [hk,cond_false] at hq
   obtain ⟨e,he,hqe⟩:=rD k q hq
   exact ⟨e,by simp [set1,own_ne hk,he],hqe⟩
 ·intro k
  show bn.at (bif Nat.beq g k then _ else Γ k) h a k
  cases hk:Nat.beq g k with
  | true=>exact hg
  | false=>exact mJ k
theorem At.U5 {f:bn} (g:Nat) (hAt:At B h0 Γ Λ F n a w) (hf:∀ h,Sat Γ h a→f.at h a g):At B h0 (fun k=>bif Nat.beq g k then f else Γ k) Λ F n a w:=by
 obtain ⟨h,L,hle,hst,rD,mJ,hsz,hdf⟩:=hAt
 refine ⟨h,L,hle,hst,rD,fun k=>?_,hsz,hdf⟩
 show bn.at (bif Nat.beq g k then f else Γ k) h a k
 cases hk:Nat.beq g k with
 | true=>rw [iW] at hk;subst hk;exact hf h mJ
 | false=>exact mJ k
theorem At.splitV {R:Rep (α×ρ)} {x:α} {J:List Value→iV→Prop} {J':ρ→iV→Prop} (d g:Nat) (hag:R.agg=true) (XY:∀ h cs p,R.rel h cs (x,p)→∀ e,J cs e→J' p e) (hdg:Nat.beq d g=false) (hAt:At B h0 Γ Λ F n a w) (hΓ:Γ d=TQ R x) (hs:Λ d=some (Nb J)) :
  ∃ p,At B h0 (fun k=>bif Nat.beq d k then fV R (x,p) else Γ k) (fun k=>bif Nat.beq d k then none else bif Nat.beq g k then some (blob J' p) else Λ k) F n a w:=by
 have hne:d≠g:=fun x=>by rw [iW.2 x] at hdg;cases hdg
 obtain ⟨h,L,hle,hst,rD,mJ,hsz,hdf⟩:=hAt
 obtain ⟨e,hL,cs,hv,hJ⟩:=rD d _ hs
 have hfd:=mJ d
 rw [hΓ] at hfd
 obtain ⟨p,cs',hr,hv'⟩:=hfd
 rw [hag] at hv'
 have hcs:cs=cs':=by
  have e:Value.agg cs.toArray=Value.agg cs'.toArray:=hv.symm.trans hv'
  have e2:cs.toArray=cs'.toArray:=by injection e
  exact congrArg Array.toList e2 |> fun t=>by simpa using t
 subst hcs
 have hst':=hst.mv d g
 refine ⟨p,h,_,hle,hst',?_,?_,hsz,hdf⟩
 ·intro k Q hq
  cases hk:Nat.beq d k with
  | true=>simp only [hk,cond_true] at hq;cases hq
  | false =>
   simp only [hk,cond_false] at hq
   cases hk2:Nat.beq g k with
   | true =>
    simp only [hk2,cond_true] at hq
    cases hq
    rw [iW] at hk2;subst hk2
    exact ⟨e,by simp [mv,hL],XY h cs p hr e hJ⟩
   | false =>
    simp only [hk2,cond_false] at hq
    obtain ⟨e,he,hqe⟩:=rD k Q hq
    exact ⟨e,by simp [mv,own_ne hk,own_ne hk2,he],hqe⟩
 ·intro k
  show bn.at (bif Nat.beq d k then fV R (x,p) else Γ k) h a k
  cases hk:Nat.beq d k with
  | true=>rw [iW] at hk;subst hk;exact ⟨cs,hr,by rw [hag];exact hv⟩
  | false=>exact mJ k
theorem At.Zn (p:ρ) (g:Nat) (hAt:At B h0 Γ Λ F n a w):At B h0 Γ (fun k=>bif Nat.beq g k then some (blob jN p) else Λ k) F n a w:=by
 obtain ⟨h,L,hle,hst,rD,mJ,hsz,hdf⟩:=hAt
 have hst':St B h (Sum.elim (set1 L g KG) F) w:=by
  refine hst.step (Sum.inl g) (fun _=>False) (fun b hb=>hb.elim) (Nat.le_refl _) rfl rfl rfl (fun _ _ _=>rfl) (oU.refl h) (fun _ _ _ _=>rfl) ?_ sW ?_
  ·rintro b o' v (hb | hb) hv
   ·exact hb.elim
   ·rw [hst.fresh hb] at hv;cases hv
  ·intro e' he;rw [sZ he];exact ⟨fun c hc=>(by cases hc),trivial⟩
 refine ⟨h,_,hle,hst',?_,mJ,hsz,hdf⟩
 intro k Q hq
 cases hk:Nat.beq g k with
 | true =>
  simp only [hk,cond_true] at hq
  cases hq
  rw [iW] at hk;subst hk
  exact ⟨KG,by simp [set1],rfl⟩
 | false =>
  simp only [hk,cond_false] at hq
  obtain ⟨e,he,hqe⟩:=rD k Q hq
  exact ⟨e,by simp [set1,own_ne hk,he],hqe⟩
theorem At.U7 {J:ρ→iV→Prop} {gf:ρ→Value} {q:gq} {p:ρ} (g g2:Nat) (hgg:Nat.beq g g2=false) (hAt:At B h0 Γ Λ F n a w) (h1:Λ g=some (blob J p)) (h2:Λ g2=some (iF q (gf p))) :
  At B h0 Γ (fun k=>bif Nat.beq g2 k then none else bif Nat.beq g k then some (blob (jC gf q J) p) else Λ k) F n a w:=by
 have hne:g≠g2:=fun x=>by rw [iW.2 x] at hgg;cases hgg
 obtain ⟨h,L,hle,hst,rD,mJ,hsz,hdf⟩:=hAt
 obtain ⟨e1,hL1,hq1⟩:=rD g _ h1
 obtain ⟨e2,hL2,hq2⟩:=rD g2 _ h2
 have hd:Gf e1.claims e2.claims:=hst.vF (k:=Sum.inl g) (k':=Sum.inl g2) hL1 hL2 (fun x=>hne (Sum.inl.inj x))
 have hj:=hst.zo (e:=BV e1 e2) hL1 hL2 (fun c hc=>List.mem_append.1 hc) ⟨(hst.own (k:=Sum.inl g) hL1).2,(hst.own (k:=Sum.inl g2) hL2).2⟩
 refine ⟨h,_,hle,hj,?_,mJ,hsz,hdf⟩
 intro k Q hq
 cases hk2:Nat.beq g2 k with
 | true=>simp only [hk2,cond_true] at hq;cases hq
 | false =>
  simp only [hk2,cond_false] at hq
  cases hk:Nat.beq g k with
  | true =>
   simp only [hk,cond_true] at hq
   cases hq
   rw [iW] at hk;subst hk
   exact ⟨BV e1 e2,by simp [zo,hne],e1,e2,hq1,hq2,rfl,hd⟩
  | false =>
   simp only [hk,cond_false] at hq
   obtain ⟨e,he,hqe⟩:=rD k Q hq
   exact ⟨e,by simp [zo,own_ne hk,own_ne hk2,he],hqe⟩
theorem retGV {fn:Func} {rv:ResultVar} {g:Nat} {R:Rep (α×ρ)} {x:α} {p:ρ} {vM:Nat→Value} {J:List Value→iV→Prop} {J':ρ→iV→Prop} (hr:fn.results = #[rv]) (h1:LZ P Γ Λ rv (fV R (x,p))) (hag:R.agg=true) (XY:∀ h cs,R.rel h cs (x,p)→∀ e,J' p e→J cs e) (hg:Λ g=some (blob J' p)) (hAt:At B h0 Γ Λ F n a w) :
  GL P fn B h0 F vM [] [] (some (Nb J)) (TQ R x) .ret a w:=by
 obtain ⟨h,L,hl,hst,rD,mJ,_,hdf⟩:=hAt
 obtain ⟨u,hu,hp⟩:=h1 _ B F h a w L hst rD mJ
 obtain ⟨e,hL,hq⟩:=rD g _ hg
 obtain ⟨cs,hrel,hv⟩:=hp
 rw [hag] at hv
 refine fun hB=>.inl ⟨hdf.trans hB,u,?_,u,h,NH L g,rfl,hl,hst.NH g,trivial,⟨e,by simp [NH,hL],cs,hv,XY h cs hrel e hq⟩,p,cs,hrel,by rw [hag];exact hv⟩
 rw [zI];simp [hr,hu]
def jF (T:TypeId) (R:Rep α) (c:Value→α) (ts:List dA) (E:TypeId) (q:Rep β) (ys:List β):gq:=fun v e=>∃ sv e1 e2,di T R (c sv) ts v e1∧fD E q ys sv e2∧Gf e1.claims e2.claims∧e=BV e1 e2
theorem At.I5 {T E:TypeId} {R:Rep α} {c:Value→α} {ts:List dA} {q:Rep β} {ys:List β} (s g:Nat) (hsg:Nat.beq s g=false) (hAt:At B h0 Γ Λ F n a w) (hs:Λ s=some (jF T R c ts E q ys)) :
  ∃ sv,At B h0 Γ (fun k=>bif Nat.beq s k then some (di T R (c sv) ts) else bif Nat.beq g k then some (dO sv E q ys) else Λ k) F n a w:=by
 obtain ⟨h,L,hle,hst,rD,mJ,hsz,hdf⟩:=hAt
 obtain ⟨e,hL,sv,e1,e2,h1,h2,hd,rfl⟩:=rD s _ hs
 have hne:s≠g:=fun x=>by rw [iW.2 x] at hsg;cases hsg
 obtain ⟨_,k1,k2⟩:=hst.own (k:=Sum.inl s) hL
 have hst':=hst.split2 (d:=g) (e1:=e1) (e2:=e2) hL hne (fun c hc=>List.mem_append_left _ hc) (fun c hc=>List.mem_append_right _ hc) hd k1 k2
 refine ⟨sv,h,_,hle,hst',?_,mJ,hsz,hdf⟩
 intro k Q hq
 cases hk:Nat.beq s k with
 | true =>
  simp only [hk,cond_true] at hq
  cases hq
  rw [iW] at hk;subst hk
  exact ⟨e1,by simp [set1,hne],h1⟩
 | false =>
  simp only [hk,cond_false] at hq
  cases hk2:Nat.beq g k with
  | true =>
   simp only [hk2,cond_true] at hq
   cases hq
   rw [iW] at hk2;subst hk2
   exact ⟨e2,by simp [set1],h2⟩
  | false =>
   simp only [hk2,cond_false] at hq
   obtain ⟨e,he,hqe⟩:=rD k Q hq
   exact ⟨e,by simp [set1,own_ne hk,own_ne hk2,he],hqe⟩
end
theorem Hu {T T' E:TypeId} {R:Rep α} {q:Rep β} {ts:List dA} {s d off:Nat} {get:α→Value} {set:α→Value→α} {x0:Operand} {y:α} {ys:List β} (l:Lens R Rep.raw off get set) (t:iy P T (Rep.slice q)) (hap:apartB off 1 ts=true) (hsd:Nat.beq s d=false) (hd:o.dst=none) (ho:o.op = .store T x0 (.tmp d)) (hx:dG N x0 (wZ s off)) :
  fG P o N [(s,di T' R y ts),(d,fD E q ys)] bn.rW [(s,some (jF T' R (fun sv=>set y sv) ts E q ys)),(d,none)]:=by
 have hne:s≠d:=fun x=>by rw [iW.2 x] at hsd;cases hsd
 intro κ B F L h a w hst hn hk _ next Q hnext _
 obtain ⟨b,hdv,hxv⟩:=hx h a hn
 obtain ⟨e,hL,b',us,hv',hta,JC,rfl⟩:=hk.1
 obtain ⟨e2,hL2,hq2⟩:=hk.2.1
 have hL2:L d=some e2:=hL2
 have hq2:fD E q ys (a.gt d) e2:=hq2
 have hd':a.gt s = .pointer (some ⟨b,0,none⟩):=hdv
 rw [hd'] at hv';cases hv'
 have hone:(a.gt d).oneCell'=true:=by rcases hq2 with ⟨⟨base,hv⟩,_⟩ | ⟨b,cap,hv,_⟩ <;> (rw [hv];rfl)
 obtain ⟨p,c,q',hp,hrun,hcl,hmem,hrel,hget,hst'⟩:=A7 l t.raw hst hL JC (List.Sublist.refl us) (fun u hu=>by
  obtain ⟨t,ht,e⟩:=hta.XW u hu;rw [e];exact zN hap t ht) (c':=[a.gt d]) (z:=a.gt d) ⟨rfl,hone⟩
 unfold Oper.qU
 have:(execOp a.eval o).run P w = .ok .skip (w.setRow b (p ++ [a.gt d] ++ q').toArray):=by
  have hrun':(Instr.storeAt T (.pointer (some ⟨b,off,none⟩)) (a.eval (.tmp d))).run P w = .ok () (w.setRow b (p ++ [a.gt d] ++ q').toArray):=hrun
  simp only [execOp,ho,hxv,Sem.run_bind,hrun',Result.andThen_ok,Sem.run_pure]
 rw [this]
 have hLd:set1 L s (jw b T' R (set y (a.gt d)) us) d=some e2:=by simp [set1,Ne.symm hne,hL2]
 have hok2:e2.ok h (World.mem (w.setRow b (p ++ [a.gt d] ++ q').toArray)):=(hst'.own (k:=Sum.inl d) hLd).2
 have hdj:Gf (jw b T' R (set y (a.gt d)) us).claims e2.claims:=hst'.vF (k:=Sum.inl s) (k':=Sum.inl d) ql hLd (fun x=>hne (Sum.inl.inj x))
 obtain ⟨_,hu2⟩:=zf hst' ql
 have hj:=hst'.zo (e:=BV (jw b T' R (set y (a.gt d)) us) e2) ql hLd (fun c hc=>List.mem_append.1 hc) ⟨⟨⟨_,hmem,hrel,hget⟩,hu2⟩,hok2⟩
 have hL':∀ e0 e3,KB.zo (set1 L s e0) s d e3=KB.zo L s d e3:=by
  intro e0 e3;funext k;unfold KB.zo set1
  by_cases h1:k=d
  ·rw [if_pos h1,if_pos h1]
  ·rw [if_neg h1,if_neg h1]
   by_cases h2:k=s
   ·rw [if_pos h2,if_pos h2]
   ·rw [if_neg h2,if_neg h2,if_neg h2]
 rw [hL'] at hj
 refine hnext undef h _ _ (oU.refl h) trivial hj ?_
 rw [hd]
 exact KH hne ⟨a.gt d,_,e2,⟨b,us,hd',hta,JC,rfl⟩,hq2,hdj,rfl⟩
theorem Gh.row {sv:Value} {E:TypeId} {r:Rep α} {xs:List α}:Gh (dO sv E r xs):=fun _ _ _ h=>h
theorem sV.gr {xs:List Operand} {k g:Nat} {E:TypeId} {q:Rep α} {ys:List α} {sv:Value} {p:Po} {r ps gs} (e:(Nat.ble 5000 k,p.nt)=(true,true)) (h:sV N xs r ps gs):sV N xs ((k,dO sv E q ys) :: r) (p :: ps) (g :: gs):=.gh (congrArg Prod.fst e) Gh.row (fun q' h2=>by have:=congrArg Prod.snd e;rw [h2] at this;cases this) h
theorem CX {x:Option gq} {b:Bool} {E:TypeId} {q:Rep α} {ys:List α} {sv:Value} {X:Prop} (e:(x,b)=(some (dO sv E q ys),true)):x=some (dO sv E q ys)∧((b=true∧Gh (dO sv E q ys))∨X):=⟨congrArg Prod.fst e,.inl ⟨congrArg Prod.snd e,Gh.row⟩⟩
end Go.KB
