/- A cell that holds the pointer to an object, made and handed back with it; what stays if a call is not done. Pointers into an object: nil, or a place in it; keys that are structs. Objects of which fields are rows that are owned, or pointers to objects; variables that hold a row and are captured; functions with a bound argument. No condition. -/
import Derived.Test.YtdmioehoinnamaaGreatDoorKZf
import Derived.Test.YtdmioehoinnamaaGreatDoorKZg
namespace Go.KB
variable {P:Program} {o:Oper} {N:List (Nat×aQ)} {α β:Type}
section
variable {κ:Type} {B:Base} {h0:H} {Γ:Ctx} {Λ:Own} {F:κ→Option gq} {n:Nat} {a:Act} {w:World}
end
def UEq (K:List (Nat×eP)) (d:Option Nat):Hr→Prop
 | (s,some q) :: r=>Qq d s=true∧NJ K s=some q∧UEq K d r
 | (_,none) :: _=>False
 | []=>True
theorem ZJ:∀ {l:List (Nat×eP)} {k:Nat} {q:eP},NJ l k=some q→(k,q) ∈ l:=by
 intro l
 induction l with
 | nil=>intro k q h;cases h
 | cons x r ih =>
  obtain ⟨k0,q0⟩:=x
  intro k q h
  simp only [NJ,Za] at h ih
  cases hb:Nat.beq k0 k with
  | true=>rw [hb] at h;cases h;rw [iQ] at hb;subst hb;simp
  | false=>rw [hb] at h;exact List.mem_cons_of_mem _ (ih h)
theorem DJ.of {K:List (Nat×eP)} {d:Option Nat}:∀ {U:Hr},UEq K d U→DJ K U d:=by
 intro U
 induction U with
 | nil=>intro _;exact DJ.nil
 | cons x r ih =>
  obtain ⟨s,q⟩:=x
  cases q with
  | none=>intro h;exact h.elim
  | some q =>
   rintro ⟨h1,h2,h3⟩ s' e he
   simp only [qw] at he
   cases hb:Nat.beq s s' with
   | true =>
    rw [hb] at he;cases he
    rw [iQ] at hb;subst hb
    exact ⟨fun e=>by unfold Qq at h1;rw [e] at h1;simp [Nat.beq_refl] at h1,q,q,rfl,ZJ h2,fun _ _ h=>h⟩
   | false=>rw [hb] at he;exact ih h3 s' e he
end Go.KB
namespace Go.KB
variable {P:Program} {o:Oper} {N:List (Nat×aQ)} {α β:Type}
structure Ym (r:Rep α) (q:Rep β) (get:α→Nat→Option β) (set:α→Nat→β→Option α):Prop where
 get:∀ n y z,get y n=some z→∃ g st,Lens r q n g st∧g y=z
 set:∀ n y z y',set y n z=some y'→∃ g st,Lens r q n g st∧st y z=y'
theorem Ym.nil {r:Rep α} {q:Rep β}:Ym r q (fun _ _=>none) (fun _ _ _=>none):=⟨(fun _ _ _ h=>nomatch h),(fun _ _ _ _ h=>nomatch h)⟩
theorem Ym.cons {r:Rep α} {q:Rep β} {off:Nat} {g:α→β} {st:α→β→α} {get:α→Nat→Option β} {set:α→Nat→β→Option α} (l:Lens r q off g st) (d:Ym r q get set) :
  Ym r q (fun y n=>bif Nat.beq n off then some (g y) else get y n) (fun y n z=>bif Nat.beq n off then some (st y z) else set y n z) where
 get:=fun n y z h=>by
  cases hb:Nat.beq n off with
  | true=>rw [iQ] at hb;subst hb;rw [show Nat.beq n n=true from iQ.2 rfl] at h;cases h;exact ⟨g,st,l,rfl⟩
  | false=>rw [hb] at h;exact d.get n y z h
 set:=fun n y z y' h=>by
  cases hb:Nat.beq n off with
  | true=>rw [iQ] at hb;subst hb;rw [show Nat.beq n n=true from iQ.2 rfl] at h;cases h;exact ⟨g,st,l,rfl⟩
  | false=>rw [hb] at h;exact d.set n y z y' h
theorem zT.struct [DecidableEq α] {K:TypeId} {r:Rep α} {f:α→Value} {g:α→α→Bool} {fs:Array Field} (e:NW P 9999 K r g) (hK:P.underlying K=some (.struct fs)) (hg:∀ x y,g x y=decide (x=y))
  (his:∀ {h u x},r.val h u x→u=f x) (hval:∀ h x,r.val h (f x) x) (vZ:∀ (e:Bool) (w:World) (x:α),(Instr.checkKey e 10000 K (f x)).run P w = .ok () w) (hbits:∀ x,Instr.sameBits 10000 (f x) (f x)=true):zT P K r f where
 is:=his
 chk:=vZ
 find:=VY hK (fun _ _=>rfl) fun x y w=>by
  have:=e ⟨fun _ _=>none,0⟩ (f x) (f y) x y w (hval _ x) (hval _ y)
  rw [hg] at this
  exact this
 bits:=hbits
 val:=hval
theorem QH {z:Value} {hz:z.oneCell'=true} {x:Operand} {sv:Value} (hc:sv.oneCell'=true) (hx:bF N x (jk sv)):bF N x (fV (Rep.MJ z hz) sv) :=
 fun h a n=>⟨[sv],⟨rfl,hc⟩,hx h a n⟩
theorem At.oneC {κ:Type} {B:Base} {h0:H} {Γ:Ctx} {Λ:Own} {F:κ→Option gq} {n:Nat} {a:Act} {w:World} {T:TypeId} {r:Rep α} {x:α} {ts:List bK} {sv:Value} (k:Nat) (hAt:At B h0 Γ Λ F n a w) (hs:Λ k=some (eX (bZ T r x ts) sv)):sv.oneCell'=true:=by
 obtain ⟨h,L,hle,hst,vN,oO,hsz,hdf⟩:=hAt
 obtain ⟨e,hL,b,us,hv,_⟩:=vN k _ hs
 rw [hv];rfl
end Go.KB
namespace Go.KB
variable {P:Program} {o:Oper} {N:List (Nat×aQ)} {α β ρ:Type}
theorem oq {z:Value} {hz:z.oneCell'=true} {sv sm:Value} {T T':TypeId} {r:Rep α} {ts:List bK} {s off:Nat} {x:Operand} {y:α} {get:α→Value} {set:α→Value→α} (l:Lens r (Rep.MJ z hz) off get set) (t:fU P T (Rep.MJ z hz)) (ho:o.op = .load T x) (hx:bF N x (xJ sv off)) (hg:get y=sm) :
  di P o N [(s,eX (bZ T' r y ts) sv)] (jk sm) []:=by
 subst hg
 exact di.out (f:=fV (Rep.MJ z hz) (get y)) rfl (fun _ _ _ hp=>Jk (z:=z) (hz:=hz) hp) (fE l t ho hx)
theorem iI {sv sm:Value} {T T':TypeId} {r:Rep α} {ts:List bK} {s off:Nat} {x:Operand} {y:α} {get:α→Value} {set:α→Value→α} (l:Lens r Rep.raw off get set) (t:fU P T Rep.raw) (ho:o.op = .load T x) (hx:bF N x (xJ sv off)) (hg:get y=sm) :
  di P o N [(s,eX (bZ T' r y ts) sv)] (fV Rep.raw sm) []:=by
 subst hg
 exact fE l t ho hx
def TR (R:Rep α) (cs:List Value) (x:α) (e:gq):gq where
 claims:=e.claims
 ok:=fun h m=>R.rel h cs x∧e.ok h m
 mono:=fun hl k=>⟨R.mono hl k.1,e.mono hl k.2⟩
 frame:=fun hm k=>⟨k.1,e.frame hm k.2⟩
def objV (R:Rep (α×ρ)) (x:α) (ts:List bK) (J:ρ→gq→Prop):eP:=fun v e=>∃ p cs e2,v = .agg cs.toArray∧yj cs ts∧J p e2∧e=TR R cs (x,p) e2
theorem Nb {E:TypeId} {r:Rep α} {xs:List α} {v:Value} {e:gq} (k:iC E r xs v e):v.oneCell'=true:=by
 rcases k with ⟨⟨base,hv⟩,_⟩ | ⟨b,cap,hv,_⟩ <;> rw [hv] <;> rfl
def drop2 (L:Nat→Option gq) (s1 s2 d:Nat) (e:gq):Nat→Option gq:=fun k=>if k=d then some e else if k=s1 then none else if k=s2 then none else L k
theorem V6 {L:Nat→Option gq} {s1 s2 d:Nat} {e:gq} {q:eP} {a:Act} (h1:s1≠d) (h2:s2≠d) (hq:q (a.gt d) e):Ea L (drop2 L s1 s2 d e) (full [(s1,none),(s2,none),(d,some q)] (some d)) a:=by
  intro k
  have b1:Nat.beq s1 d=false:=by rw [Bool.eq_false_iff,Ne,iQ];exact h1
  have b2:Nat.beq s2 d=false:=by rw [Bool.eq_false_iff,Ne,iQ];exact h2
  by_cases hk:k=d
  · subst hk
    have:qw (full [(s1,none),(s2,none),(k,some q)] (some k)) k=some (some q):=by simp [full,qw,b1,b2,Nat.beq_refl]
    rw [this];exact ⟨e,by simp [drop2],hq⟩
  · have bd : Nat.beq d k = false := by rw [Bool.eq_false_iff, Ne, iQ]; exact fun x => hk x.symm
    by_cases k1:k=s1
    · subst k1
      have:qw (full [(k,none),(s2,none),(d,some q)] (some d)) k=some none:=by simp [full,qw,Nat.beq_refl]
      rw [this];trivial
    · have bk1 : Nat.beq s1 k = false := by rw [Bool.eq_false_iff, Ne, iQ]; exact fun x => k1 x.symm
      by_cases k2:k=s2
      · subst k2
        have:qw (full [(s1,none),(k,none),(d,some q)] (some d)) k=some none:=by simp [full,qw,bk1,Nat.beq_refl]
        rw [this];trivial
      · have bk2 : Nat.beq s2 k = false := by rw [Bool.eq_false_iff, Ne, iQ]; exact fun x => k2 x.symm
        have:qw (full [(s1,none),(s2,none),(d,some q)] (some d)) k=none:=by simp [full,qw,bk1,bk2,bd]
        rw [this];show drop2 L s1 s2 d e k=L k;simp [drop2,hk,k1,k2]
theorem St.joinD {κ:Type} {B:Base} {h:H} {L:Nat→Option gq} {F:κ→Option gq} {w:World} (hst:St B h (Sum.elim L F) w) {s1 s2 d:Nat} {e e1 e2:gq} (h12:s1≠s2) (hL:L s1=some e1) (hL2:L s2=some e2)
  (hc:∀ c ∈ e.claims,c ∈ e1.claims∨c ∈ e2.claims) (ho:e.ok h (World.mem w)):St B h (Sum.elim (drop2 L s1 s2 d e) F) w:=by
 have hj:=(hst.vW hL hL2 hc ho).mv s1 d
 have e:KB.mv (KB.vW L s1 s2 e) s1 d=drop2 L s1 s2 d e:=by
  funext k;unfold KB.mv KB.vW drop2
  by_cases hk:k=d
  ·rw [if_pos hk,if_pos hk,if_neg h12,if_pos rfl]
  ·rw [if_neg hk,if_neg hk]
   by_cases k1:k=s1
   ·rw [if_pos k1,if_pos k1]
   ·rw [if_neg k1,if_neg k1,if_neg k1]
 rw [e] at hj;exact hj
theorem NS {T E1 E2:TypeId} {γ1 γ2:Type} {r1:Rep γ1} {r2:Rep γ2} {xs1:List γ1} {xs2:List γ2} {R:Rep (α×Value×Value)} {place:Nat→Option (Nat×Nat)} {parts:Array (Nat×Operand)} {x:α} {s1 s2 d:Nat} (ts:List bK) (t:fU P T R) (hpl:ku P T place)
  (hn:(!(Nat.beq s1 s2) && !(Nat.beq s1 d) && !(Nat.beq s2 d))=true) (hd:o.dst=some d) (ho:o.op = .build T parts) (hz:yj R.zc ts)
  (k:∀ v1 v2,KO P ((s1,fV Rep.raw v1) :: (s2,fV Rep.raw v2) :: N) place R ts parts.toList R.zero (x,v1,v2)) :
  di P o N [(s1,iC E1 r1 xs1),(s2,iC E2 r2 xs2)] aQ.rD [(s1,none),(s2,none),(d,some (objV R x ts (jC (fun p=>p.2) (iC E2 r2 xs2) (jC (fun p=>p.1) (iC E1 r1 xs1) jN))))]:=by
 intro κ B F L h a w hst hN hk hdn next Q hnext _
 obtain ⟨⟨e1,hL1,hq1⟩,⟨e2,hL2,hq2⟩,_⟩:=hk
 simp only [Bool.and_eq_true,Bool.not_eq_true'] at hn
 obtain ⟨⟨n12,n1d⟩,n2d⟩:=hn
 have n12:s1≠s2:=fun e=>by rw [iQ.2 e] at n12;cases n12
 have n1d:s1≠d:=fun e=>by rw [iQ.2 e] at n1d;cases n1d
 have n2d:s2≠d:=fun e=>by rw [iQ.2 e] at n2d;cases n2d
 have hN':Dl ((s1,fV Rep.raw (a.gt s1)) :: (s2,fV Rep.raw (a.gt s2)) :: N) h a:=⟨⟨[a.gt s1],⟨rfl,Nb hq1⟩,rfl⟩,⟨[a.gt s2],⟨rfl,Nb hq2⟩,rfl⟩,hN⟩
 obtain ⟨cs',hf,hr,ht⟩:=(k (a.gt s1) (a.gt s2)).run hN' (R.xX h) hz
 have h1:=hpl R.zc.toArray (parts.map fun q=>(q.1,a.eval q.2)) w cs'.toArray _ (t.zero w) (vY (R.xX h)) (by rw [Array.toList_map];exact hf)
 unfold Oper.rJ
 have:(execOp a.eval o).run P w = .ok (.value (.agg cs'.toArray)) w:=by simp only [execOp,ho,Sem.run_bind,h1,Result.andThen_ok,Sem.run_pure]
 rw [this]
 have hdj:=hst.yH (k:=Sum.inl s1) (k':=Sum.inl s2) hL1 hL2 (fun e=>n12 (Sum.inl.inj e))
 refine hnext _ h w _ (nI.refl h) trivial (hst.joinD (d:=d) (e:=TR R cs' (x,a.gt s1,a.gt s2) (J9 (J9 PL e1) e2)) n12 hL1 hL2 (fun c hc=>?_) ⟨hr,⟨⟨trivial,(hst.own (k:=Sum.inl s1) hL1).2⟩,(hst.own (k:=Sum.inl s2) hL2).2⟩⟩) ?_
 ·rcases List.mem_append.1 hc with hc | hc
  ·rcases List.mem_append.1 hc with hc | hc
   ·cases hc
   ·exact .inl hc
  ·exact .inr hc
 rw [hd]
 refine V6 n1d n2d ?_
 rw [fG (hdn d hd)]
 refine ⟨(a.gt s1,a.gt s2),cs',_,rfl,ht,⟨J9 PL e1,e2,⟨PL,e1,rfl,hq1,rfl,fun c hc=>by cases hc⟩,hq2,rfl,?_⟩,rfl⟩
 intro c hc c' hc'
 rcases List.mem_append.1 hc with hc | hc
 ·cases hc
 ·exact hdj c hc c' hc'
theorem VH {T:TypeId} {R:Rep (α×ρ)} {x:α} {ts:List bK} {J:ρ→gq→Prop} {s d:Nat} (hag:R.agg=true) (hsd:Nat.beq s d=false) (hd:o.dst=some d) (ho:o.op = .box T (.tmp s)):di P o N [(s,objV R x ts J)] aQ.rD [(s,none),(d,some (Zt T R x ts J))]:=by
  intro κ B F L h a w hst hN hk hdn next Q hnext _
  obtain ⟨e,hL,p,cs,e2,hv,hz,hJ,rfl⟩:=hk.1
  have hne:s≠d:=fun x=>by rw [iQ.2 x] at hsd;cases hsd
  obtain ⟨hcl,hr,hk2⟩:=hst.own (k:=Sum.inl s) hL
  have hv:a.gt s=pack R.agg cs:=by rw [hag];exact hv
  unfold Oper.rJ
  have hev:a.eval (.tmp s)=pack R.agg cs:=hv
  have:(execOp a.eval o).run P w = .ok (.value (.pointer (some ⟨w.heap.size,0,none⟩))) (w.alloc (.cells cs.toArray T)):=by
    simp [execOp,ho,Instr.box,hev,Cj hr]
  rw [this]
  have hst1:=hst.BI (.cells cs.toArray T) d (kR w.heap.size T R (x,p) (A7 ts)) (by
    intro c hc
    have hc:c ∈ (w.heap.size,0) :: Ii (A7 ts):=hc
    rw [GR] at hc
    simp at hc;rw [hc]) ⟨⟨_,BJ _ _,hr,hz.at⟩,fun u hu=>by rw [(EF hu).1];trivial⟩
  have hLs:set1 L d (kR w.heap.size T R (x,p) (A7 ts)) s=some (TR R cs (x,p) e2):=by simp [set1,hne,hL]
  have hLd:set1 L d (kR w.heap.size T R (x,p) (A7 ts)) d=some (kR w.heap.size T R (x,p) (A7 ts)):=vw
  have hj:=hst1.vW (e:=J9 (kR w.heap.size T R (x,p) (A7 ts)) e2) hLd hLs (fun c hc=>List.mem_append.1 hc) ⟨(hst1.own (k:=Sum.inl d) hLd).2,(hst1.own (k:=Sum.inl s) hLs).2.2⟩
  have hdj:=hst1.yH (k:=Sum.inl d) (k':=Sum.inl s) hLd hLs (fun e=>hne (Sum.inl.inj e).symm)
  refine hnext _ h _ _ (nI.refl h) trivial hj ?_
  rw [hd]
  intro k
  have b1:Nat.beq s d=false:=hsd
  by_cases hk:k=d
  · subst hk
    have:qw (full [(s,none),(k,some (Zt T R x ts J))] (some k)) k=some (some (Zt T R x ts J)):=by simp [full,qw,b1,Nat.beq_refl]
    rw [this]
    refine ⟨_,by simp [KB.vW,Ne.symm hne],p,_,e2,⟨_,_,fG (hdn k hd),EG ts,GU _ ts,rfl⟩,hJ,rfl,hdj⟩
  · have bd : Nat.beq d k = false := by rw [Bool.eq_false_iff, Ne, iQ]; exact fun x => hk x.symm
    by_cases k1:k=s
    · subst k1
      have:qw (full [(k,none),(d,some (Zt T R x ts J))] (some d)) k=some none:=by simp [full,qw,Nat.beq_refl]
      rw [this];trivial
    · have bk1 : Nat.beq s k = false := by rw [Bool.eq_false_iff, Ne, iQ]; exact fun x => k1 x.symm
      have:qw (full [(s,none),(d,some (Zt T R x ts J))] (some d)) k=none:=by simp [full,qw,bk1,bd]
      rw [this];show KB.vW _ d s _ k=L k;simp [KB.vW,set1,hk,k1]

def XC (f:FuncId) (sv:Value):aQ:=⟨none,fun _ _ v=>v = .func (.func f) #[sv] #[],fun _ x=>x⟩
theorem XF {f:FuncId} {sv:Value} {x:Operand} (ho:o.op = .makeFunc (.func f) #[x] #[]) (hx:bF N x (jk sv)):di P o N [] (XC f sv) [] :=
 di.qG fun h a w _ hn=>by
  have hx':a.eval x=sv:=hx h a hn
  exact ⟨.func (.func f) #[sv] #[],by simp [execOp,ho,Instr.makeFunc,hx'],rfl⟩
theorem SY {f:FuncId} {fn:Func} {sv:Value} {z:Operand} {ts:Array TypeId} (hf:P.funcs[f]? = some fn) (hbd:uQ fn=true) (ho:o.op = .call { callee:=.value z,args:=#[],argTypes:=ts }) (hz:bF N z (XC f sv)):GN P N o [] f [jk sv]:=by
 intro h a w hn
 simp only [uQ,Bool.and_eq_true,Bool.not_eq_true'] at hbd
 have hbody:fn.body≠none:=by
  intro hx;rw [hx] at hbd;cases hbd.1
 have hname:fn.name ≠ "runtime.NumGoroutine":=by simpa using hbd.2
 have hv:a.eval z = .func (.func f) #[sv] #[]:=hz h a hn
 refine ⟨[sv],⟨rfl,fun j g u hg hu=>?_⟩,?_⟩
 ·cases j with
  | zero=>cases hg;cases hu;rfl
  | succ j=>simp at hg
 ·simp [execOp,ho,resolve,hv,Deferred.ofValue,invoke,callFunc,hf,hname,hbody]
theorem Oh {E:TypeId} {r:Rep α} {xs:List α} {sv:Value} {g d:Nat} {x:Operand} (hgd:Nat.beq g d=false) (hd:o.dst=some d) (ho:o.op = .move x∨o.op = .assign x) (hx:bF N x (fV Rep.raw sv)):di P o N [(g,bW sv E r xs)] aQ.rD [(g,none),(d,some (iC E r xs))]:=by
 intro κ B F L h a w hst hn hk hdn next Q hnext _
 obtain ⟨e,hL,hq⟩:=hk.1
 have hx':a.eval x=sv:=Jo (hx h a hn)
 have hne:g≠d:=fun x=>by rw [iQ.2 x] at hgd;cases hgd
 unfold Oper.rJ
 have:(execOp a.eval o).run P w = .ok (.value sv) w:=by rcases ho with ho | ho <;> (simp [execOp,ho,hx'])
 rw [this]
 refine hnext _ h w _ (nI.refl h) trivial (hst.mv g d) ?_
 rw [hd]
 exact Iz hne hL (by rw [fG (hdn d hd)];exact hq)
theorem Tz {T T' E:TypeId} {r:Rep α} {xs:List α} {s0 y:Value} {s m:Nat} {x:Operand} (t:fU P T Rep.raw) (hsm:Nat.beq s m=false) (hd:o.dst=none) (ho:o.op = .store T x (.tmp m)) (hx:bF N x (jk s0)) :
  di P o N [(s,eX (bZ T' Rep.raw y []) s0),(m,iC E r xs)] aQ.rD [(s,some (eX (vG T' (iC E r xs)) s0)),(m,none)]:=by
 intro κ B F L h a w hst hn hk _ next Q hnext _
 obtain ⟨⟨e,hL,b,us,hxv,hta,Ip,rfl⟩,⟨e2,hL2,hq2⟩,_⟩:=hk
 have hus:us=[]:=by cases us with
  | nil=>rfl
  | cons _ _=>exact hta.elim
 subst hus
 have hL0:L s=some (kR b T' Rep.raw y []):=hL
 have V7:=hst
 obtain ⟨⟨cs0,hb0,hr0,_⟩,_⟩:=(hst.own (k:=Sum.inl s) hL0).2
 have hst:=V7.swap (e':=qK b T' Rep.raw y) hL0 (fun c hc=>⟨c,by simpa [kR,qK,Ii] using hc,rfl,Nat.le_refl _⟩) ⟨cs0,hb0,hr0⟩
 have hne0:s≠m:=fun x=>by rw [iQ.2 x] at hsm;cases hsm
 have hL:set1 L s (qK b T' Rep.raw y) s=some (qK b T' Rep.raw y):=vw
 have hL2:set1 L s (qK b T' Rep.raw y) m=some e2:=by simp [set1,Ne.symm hne0,(show L m=some e2 from hL2)]
 have hq2:iC E r xs (a.gt m) e2:=hq2
 have Xp:a.eval x = .pointer (some ⟨b,0,none⟩):=(hx h a hn:a.eval x=s0).trans hxv
 have hne:=hne0
 obtain ⟨cs,hb,hr⟩:=JP hst hL
 have hc':Rep.raw.rel h [a.gt m] (a.gt m):=⟨rfl,Nb hq2⟩
 have hrun:=qZ (p:=[]) (c:=cs) (q:=[]) t hc' (by simpa using hb) (Rep.raw.len hr)
 have hrun:(Instr.storeAt T (.pointer (some ⟨b,0,none⟩)) (a.gt m)).run P w = .ok () (w.setRow b #[a.gt m]):=hrun
 unfold Oper.rJ
 have:(execOp a.eval o).run P w = .ok .skip (w.setRow b #[a.gt m]):=by
  have hev:a.eval (.tmp m)=a.gt m:=rfl
  simp only [execOp,ho,Xp,hev,Sem.run_bind,hrun,Result.andThen_ok,Sem.run_pure]
 rw [this]
 have hst1:=hst.put hL hb hc'
 have hL2':set1 (set1 L s (qK b T' Rep.raw y)) s (qK b T' Rep.raw (a.gt m)) m=some e2:=by simp only [set1,if_neg (Ne.symm hne)] at hL2 ⊢;exact hL2
 have hdj:Gl [(b,0)] e2.claims:=hst.yH (k:=Sum.inl s) (k':=Sum.inl m) hL hL2 (fun x=>hne (Sum.inl.inj x))
 have hj:=hst1.vW (e:=J9 (qK b T' Rep.raw (a.gt m)) e2) vw hL2' (fun c hc=>List.mem_append.1 hc) ⟨(hst1.own (k:=Sum.inl s) vw).2,(hst1.own (k:=Sum.inl m) hL2').2⟩
 have hL':vW (set1 (set1 L s (qK b T' Rep.raw y)) s (qK b T' Rep.raw (a.gt m))) s m (J9 (qK b T' Rep.raw (a.gt m)) e2)=vW L s m (J9 (qK b T' Rep.raw (a.gt m)) e2):=by
  funext k;unfold vW set1
  by_cases h1:k=m
  ·rw [if_pos h1,if_pos h1]
  ·rw [if_neg h1,if_neg h1]
   by_cases h2:k=s
   ·rw [if_pos h2,if_pos h2]
   ·rw [if_neg h2,if_neg h2,if_neg h2,if_neg h2]
 rw [hL'] at hj
 refine hnext undef h _ _ (nI.refl h) trivial hj ?_
 rw [hd]
 exact Kr hne ⟨b,_,e2,hxv,hq2,hdj,rfl⟩
def Rep.qy (r:Rep α):Rep (Option (List α)) where
 sz:=1
 agg:=false
 rel:=fun h cs o=>∃ v,cs=[v]∧(match o with | none=>v = .slice none 0 0 | some l=>wH r h v l)
 zero:=none
 zc:=[.slice none 0 0]
 one:=fun _=>rfl
 len:=fun ⟨v,e,_⟩=>by rw [e];rfl
 flat:=fun {h cs x} ⟨v,e,k⟩ c hc=>by
  cases x with
  | none=>rw [e] at hc;simp at hc;rw [hc,show v=_ from k];rfl
  | some l=>exact (Rep.slice r).flat ⟨v,e,k⟩ c hc
 mono:=fun {h h' cs x} hl ⟨v,e,k⟩=>⟨v,e,by
  cases x with
  | none=>exact k
  | some l=>exact wH.mono hl k⟩
 xX:=fun _=>⟨_,rfl,rfl⟩
def fQn (r:Rep α) (o:Option (List α)):aQ:=⟨none,fun h _ v=>v = .slice none 0 0∧(Rep.qy r).val h v o,fun hl k=>⟨k.1,(Rep.qy r).Gq hl k.2⟩⟩
def fQs (r:Rep α) (o:Option (List α)):aQ:=⟨none,fun h _ v=>(∃ p l c,v = .slice (some p) l c)∧(Rep.qy r).val h v o,fun hl k=>⟨k.1,(Rep.qy r).Gq hl k.2⟩⟩
theorem opdQn {r:Rep α} {x:Operand} {q:Option (List α)} (hx:bF N x (fQn r q)):bF N x (fV (Rep.qy r) q):=fun h a n=>(hx h a n).2
theorem opdQs {r:Rep α} {x:Operand} {q:Option (List α)} (hx:bF N x (fQs r q)):bF N x (fV (Rep.qy r) q):=fun h a n=>(hx h a n).2
theorem opdQ0 {r:Rep α}:bF N (.const (.slice none 0 0)) (fV (Rep.qy r) none):=fun _ _ _=>⟨_,⟨_,rfl,rfl⟩,rfl⟩
theorem opdQ1 {r:Rep α} {x:Operand} {l:List α} (hx:bF N x (fV (Rep.slice r) l)):bF N x (fV (Rep.qy r) (some l)):=fun h a n=>by
 obtain ⟨cs,⟨v,e,k⟩,e'⟩:=hx h a n
 exact ⟨cs,⟨v,e,k⟩,e'⟩
theorem Xz {r:Rep α} {x:Operand} {q:Option (List α)} (hx:bF N x (fV (Rep.qy r) q)):bF N x (fV (Rep.slice r) (q.getD [])):=fun h a n=>by
 obtain ⟨cs,⟨v,e,k⟩,e'⟩:=hx h a n
 cases q with
 | none=>exact ⟨cs,⟨v,e,.inl ⟨⟨none,k⟩,rfl⟩⟩,e'⟩
 | some l=>exact ⟨cs,⟨v,e,k⟩,e'⟩
theorem SN {T T' E:TypeId} {r:Rep α} {x:Operand} {q:Option (List α)} (hT:P.underlying T=some (.slice E)) (ho:o.op = .binOp .neq T x (.const (.slice none 0 0)) T') (hx:bF N x (fQn r q)):di P o N [] (fV Rep.bool false) [] :=
 di.qG fun h a w _ n=>by
  have hg:∀ v,eqGuard .neq T x (.const (.slice none 0 0)) v (.slice none 0 0)=pure ():=by
   intro v;unfold eqGuard;cases v <;> rfl
  have hv:a.eval x = .slice none 0 0:=(hx h a n).1
  refine ⟨.bool false,?_,qF.2 rfl⟩
  simp only [execOp,ho,hv]
  show ((do eqGuard _ _ _ _ _ (.slice none 0 0);binOp .neq T (.slice _ _ _) (.slice none 0 0)) >>= fun v=>pure (Next.value v)).run P w=_
  rw [hg];simp only [pure_bind,Sem.run_bind,Go.run_neq_slice_nil w T E none 0 0 hT,Result.andThen_ok,Sem.run_pure];rfl
theorem SQ {T T' E:TypeId} {r:Rep α} {x:Operand} {q:Option (List α)} (hT:P.underlying T=some (.slice E)) (ho:o.op = .binOp .neq T x (.const (.slice none 0 0)) T') (hx:bF N x (fQs r q)):di P o N [] (fV Rep.bool true) [] :=
 di.qG fun h a w _ n=>by
  have hg:∀ v,eqGuard .neq T x (.const (.slice none 0 0)) v (.slice none 0 0)=pure ():=by
   intro v;unfold eqGuard;cases v <;> rfl
  obtain ⟨⟨p,l,c,hv⟩,_⟩:=hx h a n
  refine ⟨.bool true,?_,qF.2 rfl⟩
  simp only [execOp,ho,hv]
  show ((do eqGuard _ _ _ _ _ (.slice none 0 0);binOp .neq T (.slice _ _ _) (.slice none 0 0)) >>= fun v=>pure (Next.value v)).run P w=_
  rw [hg];simp only [pure_bind,Sem.run_bind,Go.run_neq_slice_nil w T E (some p) l c hT,Result.andThen_ok,Sem.run_pure];rfl
theorem At.nilQ {κ:Type} {B:Base} {h0:H} {Γ:Ctx} {Λ:Own} {F:κ→Option gq} {n:Nat} {a:Act} {w:World} {r:Rep α} {q:Option (List α)} (s:Nat) (hAt:At B h0 Γ Λ F n a w) (hs:Γ s=fV (Rep.qy r) q) :
  ((q=none∨q=some [])∧At B h0 (fun k=>bif Nat.beq s k then fQn r q else Γ k) Λ F n a w)∨((∃ l,q=some l)∧At B h0 (fun k=>bif Nat.beq s k then fQs r q else Γ k) Λ F n a w):=by
 obtain ⟨h,L,hle,hst,vN,oO,hsz,hdf⟩:=hAt
 have hS:=oO s
 rw [hs] at hS
 have hS:(Rep.qy r).val h (a.gt s) q:=hS
 have fin:∀ f:aQ,f.dep=none→f.p h undef (a.gt s)→At B h0 (fun k=>bif Nat.beq s k then f else Γ k) Λ F n a w:=fun f hd hf=>by
  refine ⟨h,L,hle,hst,vN,fun k=>?_,hsz,hdf⟩
  show aQ.at (bif Nat.beq s k then f else Γ k) h a k
  cases hb:Nat.beq s k with
  | true =>
   rw [iQ] at hb;subst hb
   show f.p h (f.dv a) (a.gt s)
   unfold aQ.dv;rw [hd];exact hf
  | false=>exact oO k
 obtain ⟨cs,⟨v,e,k⟩,e'⟩:=hS
 have hv:a.gt s=v:=by rw [e',e];rfl
 have hS2:(Rep.qy r).val h (a.gt s) q:=⟨cs,⟨v,e,k⟩,e'⟩
 cases q with
 | none=>exact .inl ⟨.inl rfl,fin _ rfl ⟨hv.trans k,hS2⟩⟩
 | some l =>
  rcases k with ⟨⟨base,hv2⟩,hl⟩ | ⟨b,off,cap,hv2,_⟩
  ·cases base with
   | none=>exact .inl ⟨.inr (by rw [hl]),fin _ rfl ⟨hv.trans hv2,hS2⟩⟩
   | some p=>exact .inr ⟨⟨l,rfl⟩,fin _ rfl ⟨⟨p,0,0,hv.trans hv2⟩,hS2⟩⟩
  ·exact .inr ⟨⟨l,rfl⟩,fin _ rfl ⟨⟨_,_,_,hv.trans hv2⟩,hS2⟩⟩
open Classical in
noncomputable def UN {β:Type} (a b:Option β):Option β:=if a=b then a else none
noncomputable def Yn {α β:Type} (q:Option (List α)) (a b:Option β):Option β:=match q with
 | none=>a
 | some []=>UN a b
 | some (_ :: _)=>b
theorem Nc {β:Type} {a b:Option β} {r:β} (h:UN a b=some r):a=some r∧b=some r:=by
 unfold UN at h
 split at h
 ·rename_i e;exact ⟨h,e ▸ h⟩
 ·cases h
theorem selQ_n {α β:Type} {q:Option (List α)} {a b:Option β} {r:β} (hq:q=none∨q=some []) (h:Yn q a b=some r):a=some r:=by
 rcases hq with rfl | rfl
 ·exact h
 ·exact (Nc h).1
theorem selQ_s {α β:Type} {q:Option (List α)} {a b:Option β} {r:β} (hq:∃ l,q=some l) (h:Yn q a b=some r):b=some r:=by
 obtain ⟨l,rfl⟩:=hq
 cases l with
 | nil=>exact (Nc h).2
 | cons x l=>exact h
theorem V8 {α β:Type} {q:Option (List α)} {a b:Option β} (h:q=some []→a=b):Yn q a b=(if q=none then a else b):=by
 cases q with
 | none=>rfl
 | some l=>cases l with
  | nil=>unfold Yn UN;rw [if_pos (h rfl),if_neg (by simp)];exact h rfl
  | cons x l=>rfl
section
variable {κ:Type} {B:Base} {h0:H} {Γ:Ctx} {Λ:Own} {F:κ→Option gq} {n:Nat} {a:Act} {w:World}
theorem At.qNew {T E:TypeId} {r:Rep α} (s g:Nat) (hsg:Nat.beq s g=false) (hAt:At B h0 Γ Λ F n a w) (hs:Λ s=some (dJ T Rep.raw Bh)) :
  ∃ sv,At B h0 (fun k=>bif Nat.beq s k then jk sv else Γ k) (fun k=>bif Nat.beq g k then some (eX (vG T (iC E r ([]:List α))) sv) else bif Nat.beq s k then none else Λ k) F n a w:=by
 obtain ⟨sv,h,L,hle,hst,vN,oO,hsz,hdf⟩:=hAt.Me s g hsg hs
 obtain ⟨e,hL,b,hv,he⟩:=vN g (eX (dJ T Rep.raw Bh) sv) (by simp [Nat.beq_refl])
 subst he
 have hst1:=hst.swap (e':=J9 (qK b T Rep.raw Bh) oV) hL (fun c hc=>by
  rcases List.mem_append.1 hc with hc | hc
  ·exact ⟨c,hc,rfl,Nat.le_refl _⟩
  ·cases hc) ⟨(hst.own (k:=Sum.inl g) hL).2,trivial⟩
 refine ⟨sv,h,_,hle,hst1,?_,oO,hsz,hdf⟩
 intro k q hq
 cases hk:Nat.beq g k with
 | true =>
  simp only [hk,cond_true] at hq
  cases hq
  rw [iQ] at hk;subst hk
  exact ⟨_,vw,b,Bh,oV,hv,.inl ⟨⟨none,rfl⟩,rfl,rfl⟩,fun c hc c' hc'=>by (cases hc'),rfl⟩
 | false =>
  simp only [hk,cond_false] at hq
  have hgk:k≠g:=fun x=>by rw [iQ.2 x.symm] at hk;cases hk
  obtain ⟨e',h1,h2⟩:=vN k q (by simp only [hk,cond_false];exact hq)
  exact ⟨e',by simp [set1,hgk,h1],h2⟩
theorem At.MF {T E:TypeId} {r:Rep α} {xs:List α} {s0:Value} (k0 g:Nat) (hkg:Nat.beq k0 g=false) (hAt:At B h0 Γ Λ F n a w) (hs:Λ k0=some (eX (vG T (iC E r xs)) s0)) :
  ∃ sv,At B h0 Γ (fun k=>bif Nat.beq g k then some (bW sv E r xs) else bif Nat.beq k0 k then some (eX (bZ T Rep.raw sv []) s0) else Λ k) F n a w:=by
 obtain ⟨h,L,hle,hst,vN,oO,hsz,hdf⟩:=hAt
 obtain ⟨e,hL,b,sv,e2,hv,hq,hbm,rfl⟩:=vN k0 _ hs
 have hne:k0≠g:=fun x=>by rw [iQ.2 x] at hkg;cases hkg
 obtain ⟨_,k1,k2⟩:=hst.own (k:=Sum.inl k0) hL
 obtain ⟨cs,hb,hr⟩:=k1
 have hst1:=hst.split2 (d:=g) (e1:=kR b T Rep.raw sv []) (e2:=e2) hL hne (fun c hc=>List.mem_append_left _ (by simpa [kR,qK,Ii] using hc)) (fun c hc=>List.mem_append_right _ hc) (by
  intro c hc c' hc'
  exact hbm c (by simpa [kR,Ii] using hc) c' hc') ⟨⟨cs,hb,hr,fun u hu=>by cases hu⟩,fun u hu=>by cases hu⟩ k2
 refine ⟨sv,h,_,hle,hst1,?_,oO,hsz,hdf⟩
 intro k q hq'
 cases hk:Nat.beq g k with
 | true =>
  simp only [hk,cond_true] at hq'
  cases hq'
  rw [iQ] at hk;subst hk
  exact ⟨e2,by simp [set1],hq⟩
 | false =>
  simp only [hk,cond_false] at hq'
  have n1:k≠g:=fun x=>by rw [iQ.2 x.symm] at hk;cases hk
  cases hk2:Nat.beq k0 k with
  | true =>
   simp only [hk2,cond_true] at hq'
   cases hq'
   rw [iQ] at hk2;subst hk2
   exact ⟨_,by simp [set1,n1],b,[],hv,trivial,⟨List.Pairwise.nil,fun u hu=>by cases hu⟩,rfl⟩
  | false =>
   simp only [hk2,cond_false] at hq'
   have n2:k≠k0:=fun x=>by rw [iQ.2 x.symm] at hk2;cases hk2
   obtain ⟨e',h1,h2⟩:=vN k q hq'
   exact ⟨e',by simp [set1,n1,n2,h1],h2⟩
theorem At.UG {T E:TypeId} {r:Rep α} {xs:List α} {s0 sv:Value} (k0 g:Nat) (hkg:Nat.beq k0 g=false) (hAt:At B h0 Γ Λ F n a w) (hs:Λ k0=some (eX (bZ T Rep.raw sv []) s0)) (hg:Λ g=some (bW sv E r xs)) :
  At B h0 Γ (fun k=>bif Nat.beq g k then none else bif Nat.beq k0 k then some (eX (vG T (iC E r xs)) s0) else Λ k) F n a w:=by
 obtain ⟨h,L,hle,hst,vN,oO,hsz,hdf⟩:=hAt
 obtain ⟨e,hL,b,us,hv,hta,Ip,rfl⟩:=vN k0 _ hs
 obtain ⟨e2,hL2,hq2⟩:=vN g _ hg
 have hus:us=[]:=by cases us with
  | nil=>rfl
  | cons _ _=>exact hta.elim
 subst hus
 have hne:k0≠g:=fun x=>by rw [iQ.2 x] at hkg;cases hkg
 have hdj:=hst.yH (k:=Sum.inl k0) (k':=Sum.inl g) hL hL2 (fun x=>hne (Sum.inl.inj x))
 obtain ⟨⟨cs,hb,hr,_⟩,_⟩:=(hst.own (k:=Sum.inl k0) hL).2
 have hj:=hst.vW (e:=J9 (qK b T Rep.raw sv) e2) hL hL2 (fun c hc=>by
  rcases List.mem_append.1 hc with hc | hc
  ·exact .inl (by simpa [kR,qK,Ii] using hc)
  ·exact .inr hc) ⟨⟨cs,hb,hr⟩,(hst.own (k:=Sum.inl g) hL2).2⟩
 refine ⟨h,_,hle,hj,?_,oO,hsz,hdf⟩
 intro k q hq'
 cases hk:Nat.beq g k with
 | true=>simp only [hk,cond_true] at hq';cases hq'
 | false =>
  simp only [hk,cond_false] at hq'
  have n1:k≠g:=fun x=>by rw [iQ.2 x.symm] at hk;cases hk
  cases hk2:Nat.beq k0 k with
  | true =>
   simp only [hk2,cond_true] at hq'
   cases hq'
   rw [iQ] at hk2;subst hk2
   exact ⟨_,by simp [KB.vW,n1],b,sv,e2,hv,hq2,fun c hc c' hc'=>hdj c (by simpa [kR,Ii] using hc) c' hc',rfl⟩
  | false =>
   simp only [hk2,cond_false] at hq'
   have n2:k≠k0:=fun x=>by rw [iQ.2 x.symm] at hk2;cases hk2
   obtain ⟨e',h1,h2⟩:=vN k q hq'
   exact ⟨e',by simp [KB.vW,n1,n2,h1],h2⟩
theorem At.rvFix {E:TypeId} {q:Rep β} {ys:List β} {sv:Value} (s g:Nat) (hsg:Nat.beq g s=false) (hAt:At B h0 Γ Λ F n a w) (hs:Γ s=fV Rep.raw sv) (hg:Λ g=some (bW sv E q ys)) :
  At B h0 (fun k=>bif Nat.beq s k then fV (Rep.slice q) ys else bif Nat.beq g k then fGs q sv ys else Γ k) (fun k=>bif Nat.beq g k then none else Λ k) F n a w:=by
 have h1:=hAt.frzG g hg
 obtain ⟨h,L,hle,hst,vN,oO,hsz,hdf⟩:=h1
 refine ⟨h,L,hle,hst,vN,?_,hsz,hdf⟩
 have hG:=oO g
 simp only [Nat.beq_refl,cond_true] at hG
 have hS:=oO s
 simp only [hsg,cond_false] at hS
 rw [hs] at hS
 intro k
 cases hb:Nat.beq s k with
 | true =>
  rw [iQ] at hb;subst hb
  simp only [Nat.beq_refl,cond_true]
  have hv:a.gt s=sv:=Jo hS
  exact ⟨[sv],hG,by show a.gt s=_;rw [hv];rfl⟩
 | false =>
  simp only [hb,cond_false]
  exact oO k
end
end Go.KB
