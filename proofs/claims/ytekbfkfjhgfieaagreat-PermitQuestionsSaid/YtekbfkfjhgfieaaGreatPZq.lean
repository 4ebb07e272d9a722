/- Plain laws of chapter 7: the open permits are a possible set. Plain laws of chapter 7: the reference office, its questions. Plain laws of chapter 7: the reference office settles. Plain laws of chapter 7: the reference office takes an event. Plain laws of chapter 7: the reference office lets persons in and out, and takes an event of a permit. Plain laws of chapter 7: the reference office takes an event as the office by names does. Plain laws of chapter 7: the reference office does what the office by names does, from the start. No condition. -/
import Derived.Test.YtekbfkfjhgfieaaGreatPZo
import Derived.Test.YtekbfkfjhgfieaaGreatPZp
namespace Go.KB
set_option linter.unusedVariables false
theorem Qo {p:GPermitPlan} {A:AO} {so:aH→Bool}:(nH p A so).length≤p.ak.length:=by
 unfold nH;rw [List.length_map];exact List.length_filter_le _ _
theorem jQ5 {p:GPermitPlan} {n:Nat} {N:Nat} {K:Option Bool} (hN:1000000≤N) (ha:wz N=some true) (hK:FW p→yO p=0→p.bM.length≤8→p.ak.length≤8→p.dY.length≤12→n≤30→K=some true):((Ar N p).bind fun v1=>bif ((!v1)||(aG .gtr (n:Int) 30)) then ((wz N).bind fun v2=>some v2) else K)=some true:=by
 rcases fit_eq p hN with hf | ⟨hf,hp,hc,hsl,hpl,hxl⟩
 ·rw [hf,ha];rfl
 rw [hf,bS,Bool.not_true,Bool.false_or,uP,ha]
 by_cases hl:30<n
 ·rw [dT (by omega)];rfl
 ·rw [dF (by omega),mD];exact hK hp hc hsl hpl hxl (by omega)
end Go.KB
namespace Go.KB
set_option linter.unusedVariables false
def Ll:Option au→dQ
 | none=>⟨false,0,0,0⟩
 | some t=>⟨true,t.at_,t.oK,t.Ro⟩
def uy {β:Type} (p:GPermitPlan) (F:Str→β):List β:=p.ak.map fun x=>F x.Name
def OZ {β:Type} (p:GPermitPlan) (F:Str→β):List β:=p.bM.map fun x=>F x.Name
def J5 (q:Str×Str):eU:=⟨q.1,q.2⟩
def toR (p:GPermitPlan) (A:AO):af:=⟨p,A.now,uy p (stA A),uy p (fun n=>(A.es n).AU),uy p (fun n=>(A.es n).zF),OZ p (fun s=>Ll (A.ts s)),A.pp.map J5⟩
def Tv (p:GPermitPlan) (A:AO):Prop:=∀ q ∈ A.pp,uY p q.2=true
section
variable {β:Type} {p:GPermitPlan} {F G:Str→β}
theorem uz:(uy p F).length=p.ak.length:=by unfold uy;rw [List.length_map]
theorem J6:(OZ p F).length=p.bM.length:=by unfold OZ;rw [List.length_map]
theorem jQ9 {i:Nat} (h:i<(uy p F).length):(uy p F)[i]=F (p.ak[i]'(by rw [uz] at h;exact h)).Name:=by simp [uy]
theorem jXj {i:Nat} (h:i<(OZ p F).length):(OZ p F)[i]=F (p.bM[i]'(by rw [J6] at h;exact h)).Name:=by simp [OZ]
theorem BK {i:Nat} (hi:i<p.ak.length):idx (uy p F) (i:Int)=some (F p.ak[i]!.Name):=by
 rw [jK (by rw [uz];exact hi)];unfold uy;rw [List.getElem_map,DC hi]
theorem jJv {i:Nat} (hi:i<p.bM.length):idx (OZ p F) (i:Int)=some (F p.bM[i]!.Name):=by
 rw [jK (by rw [J6];exact hi)];unfold OZ;rw [List.getElem_map,DC hi]
theorem Ba (h:∀ x ∈ p.ak,F x.Name=G x.Name):uy p F=uy p G:=List.map_congr_left h
theorem Yp (h:∀ x ∈ p.bM,F x.Name=G x.Name):OZ p F=OZ p G:=List.map_congr_left h
theorem MH (ho:EQ p) {i:Nat} (hi:i<p.ak.length) (v:β):(uy p F).set i v=uy p (fun n=>bif decide (n=p.ak[i]!.Name) then v else F n):=by
 refine List.ext_getElem (by rw [List.length_set,uz,uz]) fun j h1 h2=>?_
 have h2':j<p.ak.length:=by rw [uz] at h2;exact h2
 rw [List.getElem_set]
 simp only [jQ9]
 by_cases e:i=j
 ·subst e;rw [if_pos rfl,dT (congrArg aH.Name (DC hi).symm)];rfl
 ·rw [if_neg e,dF (fun he=>e (ho.pd i j hi h2' (by rw [DC h2'];exact he.symm)))];rfl
theorem jXq (ho:EQ p) {i:Nat} (hi:i<p.bM.length) (v:β):(OZ p F).set i v=OZ p (fun n=>bif decide (n=p.bM[i]!.Name) then v else F n):=by
 refine List.ext_getElem (by rw [List.length_set,J6,J6]) fun j h1 h2=>?_
 have h2':j<p.bM.length:=by rw [J6] at h2;exact h2
 rw [List.getElem_set]
 simp only [jXj]
 by_cases e:i=j
 ·subst e;rw [if_pos rfl,dT (congrArg dH.Name (DC hi).symm)];rfl
 ·rw [if_neg e,dF (fun he=>e (ho.sd i j hi h2' (by rw [DC h2'];exact he.symm)))];rfl
end
theorem ltN (a b:Int):decide (a<b) = !decide (b≤a):=by rw [Bool.eq_iff_iff];simp
section
variable {N:Nat} {p:GPermitPlan} {A:AO} (hp:FW p) (ho:EQ p) (hN:1000000≤N) (b:IL A)
include ho b in
theorem Qn {k:Nat} (hk:k<p.bM.length) {q:Bool}:nT N (toR p A) (k:Int) q=some (bif q then Oh p A p.bM[k]!.Name else Og p A p.bM[k]!.Name):=by
 unfold nT Oh Og
 show ((idx p.bM (k:Int)).bind fun v1=>bif (!v1.dD) then (some true) else ((idx (OZ p fun s=>Ll (A.ts s)) (k:Int)).bind fun v2=>bif (((((!v2.Done)||(aG .gtr (IntKind.i64.wrap (A.now - v2.At)) p.gB))||(aG .lss v2.qx 195))||(aG .gtr v2.qx 235))||(aG .gtr v2.IW 50)) then (some false) else (some ((!q)||(aG .leq v2.IW 10)))))=_
 rw [zK hk,bS,jJv hk,bS,ho.jJk (rC hk)]
 cases p.bM[k]!.dD with
 | false=>cases q <;> rfl
 | true =>
  simp only [Bool.not_true,mD]
  cases ht:A.ts p.bM[k]!.Name with
  | none=>cases q <;> rfl
  | some t =>
   have h1:=b.tt _ t ht
   have h2:=b.tm
   show (bif (((((!true)||(aG .gtr (IntKind.i64.wrap (A.now - t.at_)) p.gB))||(aG .lss t.oK 195))||(aG .gtr t.oK 235))||(aG .gtr t.Ro 50)) then (some false) else (some ((!q)||(aG .leq t.Ro 10))))=_
   rw [w64i (by omega) (by omega)]
   simp only [uP,bU,wM,ltN]
   cases decide (A.now - t.at_≤p.gB) <;> cases decide (195≤t.oK) <;> cases decide (t.oK≤235) <;> cases decide (t.Ro≤50) <;> cases decide (t.Ro≤10) <;> cases q <;> rfl
theorem U9 {p:GPermitPlan} {A:AO} {x:aH} {s:Str} (h:(yN p s).dD=false):Fz p A x s=true:=by
 unfold Fz Oh Og;rw [h];simp
theorem jXx (ho:EQ p) {x:aH} (hx:x ∈ p.ak):∀ k ∈ Q5 p x,∃ j:Nat,k=(j:Int)∧j<p.bM.length:=by
 obtain ⟨s,hsl,f1,f2⟩:=ixS (ho.pk _ hx).2.2.2.2
 intro k hk
 unfold Q5 at hk
 cases hn:BQ x with
 | false=>rw [hn] at hk;cases hk
 | true =>
  rw [hn,lW] at hk
  rcases List.mem_cons.1 hk with rfl | hk
  ·exact ⟨s,f1,hsl⟩
  ·cases h0:decide (x.Kind=0) with
   | false=>rw [h0] at hk;cases hk
   | true =>
    rw [h0,lW,List.mem_map] at hk
    obtain ⟨j,hj,rfl⟩:=hk
    unfold plS at hj
    rw [List.mem_filter,List.mem_range] at hj
    exact ⟨j,rfl,hj.1⟩
theorem jXz {p:GPermitPlan} {x:aH}:(Q5 p x).length≤1+p.bM.length:=by
 unfold Q5 plS
 cases BQ x with
 | false=>exact Nat.zero_le _
 | true =>
  rw [lW,List.length_cons]
  cases decide (x.Kind=0) with
  | false=>simp
  | true =>
   rw [lW,List.length_map]
   have:=List.length_filter_le (fun k=>decide (lI p x.Space p.bM[k]!.Name=1)) (List.range p.bM.length)
   rw [List.length_range] at this;omega
theorem jJw (ho:EQ p) {x:aH} (hx:x ∈ p.ak):((Q5 p x).filter fun k=>!Fz p A x p.bM[k.toNat]!.Name).map (fun k=>p.bM[k.toNat]!.Name)=BA p A x:=by
 have hsp:=(ho.pk _ hx).2.2.2.2
 obtain ⟨s,hsl,f1,f2⟩:=ixS hsp
 have hnm:(yN p x.Space).Name=x.Space:=(MI hsp).2
 unfold BA Q5 JC
 have hneed:x.Kind=0→BQ x=true:=fun e=>by unfold BQ;rw [e];rfl
 cases hn:BQ x with
 | false=>rw [dF (fun e=>by rw [hneed e] at hn;cases hn)];rfl
 | true =>
  rw [lW,Bool.true_and,f1,hnm]
  have htail:((bif decide (x.Kind=0) then (plS p x).map (fun (k:Nat)=>(k:Int)) else []).filter (fun k=>!Fz p A x p.bM[k.toNat]!.Name)).map (fun k=>p.bM[k.toNat]!.Name)=(bif decide (x.Kind=0) then (p.bM.filter (fun y=>y.dD&&decide (lI p y.Name x.Space=1))).map (fun y=>y.Name) else []).filter (fun s=>!Fz p A x s):=by
   cases decide (x.Kind=0) with
   | false=>rfl
   | true =>
    simp only [lW]
    unfold plS
    rw [List.filter_map,List.map_map,List.filter_filter,List.filter_map,List.filter_filter,← TB (fun a=>((fun s=>!Fz p A x s) ∘ fun y:dH=>y.Name) a&&(a.dD&&decide (lI p a.Name x.Space=1))) (fun y:dH=>y.Name)]
    refine congrArg _ (List.filter_congr fun k hk=>?_)
    rw [List.mem_range] at hk
    simp only [Function.comp_apply,Int.toNat_natCast]
    rw [Qp p x.Space]
    cases he:p.bM[k]!.dD with
    | true=>rw [Bool.true_and]
    | false=>rw [U9 (by rw [ho.jJk (rC hk)];exact he)];rfl
  rw [List.filter_cons,List.filter_append,← htail]
  have hs0:p.bM[(s:Int).toNat]!.Name=x.Space:=by rw [Int.toNat_natCast,f2,hnm]
  rw [hs0]
  cases he:(yN p x.Space).dD with
  | true =>
   rw [lW,List.filter_cons]
   cases Fz p A x x.Space with
   | true=>rfl
   | false=>simp only [Bool.not_false,if_true,List.map_cons,hs0];rfl
  | false=>rw [U9 he];rfl
include hp ho hN b in
theorem Oi {i:Nat} (hi:i<p.ak.length):oq N (toR p A) (i:Int)=some (BA p A p.ak[i]!):=by
 have hs:=hp.s
 have hlim:lim ≥ 1000000:=by decide
 have hx:=rC hi
 have hl:=jXz (p:=p) (x:=p.ak[i]!)
 unfold oq
 show ((yH N p (i:Int)).bind fun v1=>_)=_
 rw [WO hp ho hi hN,bS]
 rw [CQ (f:=mg N (toR p A) (i:Int) (Q5 p p.ak[i]!)) (Q5 p p.ak[i]!) [] (fun k=>!Fz p A p.ak[i]! p.bM[k.toNat]!.Name) (fun k=>p.bM[k.toNat]!.Name) (fun a i=>(a,i)) (fun a=>a) (fun j hj acc hacc=>?_) (fun acc=>?_) (by omega)]
 ·rw [jJw ho hx];rfl
 ·obtain ⟨k,hk,hkl⟩:=jXx ho hx _ (List.getElem_mem hj)
  simp only [List.length_nil] at hacc
  unfold mg
  simp only []
  rw [bU,dT (by omega),lW,jK hj,bS,hk]
  show ((idx p.ak (i:Int)).bind fun v4=>(nT N (toR p A) (k:Int) (aG .eql v4.Kind 0)).bind fun v5=>bif (!v5) then ((some (k:Int)).bind fun v6=>(idx p.bM v6).bind fun v7=>(app acc [v7.Name]).bind fun v8=>some (Sum.inl (v8,(IntKind.i64.wrap ((j:Int)+1))))) else (some (.inl (acc,(IntKind.i64.wrap ((j:Int)+1))))))=_
  rw [zK hi,bS,Qn ho b hkl,bS,bS,zK hkl,bS,qX (by omega),Int.toNat_natCast,jS]
  show (bif !Fz p A p.ak[i]! p.bM[k]!.Name then _ else _)=_
  cases Fz p A p.ak[i]! p.bM[k]!.Name with
  | true=>rfl
  | false=>simp only [Bool.not_false,lW];rw [A7 (by simp only [List.length_singleton];omega)];rfl
 ·unfold mg
  simp only []
  rw [bU,dF (by omega),mD]
include hp ho hN in
theorem MJ {i:Nat} (hi:i<p.ak.length):nR N (toR p A) (i:Int)=some (Fp A p.ak[i]!):=by
 have hm:=hp.m
 have hlim:lim ≥ 1000000:=by decide
 have hx:=rC hi
 have hl:=hp.l _ hx
 unfold nR
 show ((idx p.ak (i:Int)).bind fun v1=>_)=_
 rw [zK hi,bS]
 rw [CQ (f:=lF N (toR p A) p.ak[i]!) p.ak[i]!.Locks [] (fun s=>!decide (stA A s=2)) (fun s=>s) (fun a i=>(a,i)) (fun a=>a) (fun j hj acc hacc=>?_) (fun acc=>?_) (by omega)]
 ·rw [List.nil_append,List.map_id'];rfl
 ·simp only [List.length_nil] at hacc
  obtain ⟨k,hk,e1,e2⟩:=ixP (ho.lk _ hx _ (List.getElem_mem hj)).1
  have hnm:=(AA (ho.lk _ hx _ (List.getElem_mem hj)).1).2
  unfold lF
  simp only []
  rw [bU,dT (by omega),lW,jK hj,bS]
  show ((qc N p p.ak[i]!.Locks[j]).bind fun v4=>(idx (uy p (stA A)) v4).bind fun v5=>_)=_
  rw [Fv (by omega) hN,bS,e1,BK hk,bS,e2,hnm,wu,qX (by omega),bS]
  cases decide (stA A p.ak[i]!.Locks[j]=2) with
  | true=>rfl
  | false=>simp only [Bool.not_false,lW];rw [A7 (by simp only [List.length_singleton];omega)];rfl
 ·unfold lF
  simp only []
  rw [bU,dF (by omega),mD]
include hp hN b in
theorem Le (ps:Tv p A) {s:Str} (hs:uY p s=true) {k:Int}:kQ N (toR p A) s k=some (vG A fun t=>decide (lI p t s≤k)):=by
 have hlim:lim ≥ 1000000:=by decide
 have hb:=b.pl
 unfold kQ
 rw [CQ (f:=nD N (toR p A) s k) A.pp [] (fun q=>decide (lI p q.2 s≤k)) (fun q=>q.1) (fun a i=>(a,i)) (fun a=>a) (fun j hj acc hacc=>?_) (fun acc=>?_) (by omega)]
 ·rfl
 ·simp only [List.length_nil] at hacc
  unfold nD
  simp only []
  show (bif (aG .lss (j:Int) (List.length (A.pp.map J5):Int)) then ((idx (A.pp.map J5) (j:Int)).bind fun v2=>(nI N p v2.Space s).bind fun v3=>bif (aG .leq v3 k) then ((idx (A.pp.map J5) (j:Int)).bind fun v4=>(app acc [v4.Name]).bind fun v5=>some (Sum.inl (v5,(IntKind.i64.wrap ((j:Int)+1))))) else (some (.inl (acc,(IntKind.i64.wrap ((j:Int)+1)))))) else (some (.inr acc)))=_
  rw [List.length_map,bU,dT (by omega),lW,jK (by rw [List.length_map];exact hj),List.getElem_map,bS,bS]
  show ((nI N p A.pp[j].2 s).bind fun v3=>_)=_
  rw [CS hp (ps _ (List.getElem_mem hj)) hs hN,bS,wM,qX (by omega)]
  cases decide (lI p A.pp[j].2 s≤k) with
  | false=>rfl
  | true=>simp only [lW];rw [A7 (by simp only [List.length_singleton];omega)];rfl
 ·unfold nD
  simp only []
  show (bif (aG .lss (A.pp.length:Int) (List.length (A.pp.map J5):Int)) then _ else _)=_
  rw [List.length_map,bU,dF (by omega),mD]
theorem near0 {a s:Str}:decide (lI p a s≤0)=decide (a=s):=by
 refine decide_eq_decide.2 ⟨fun h=>?_,fun h=>by rw [h];unfold lI;rw [if_pos rfl];omega⟩
 unfold lI at h
 by_cases e:a=s
 ·exact e
 ·rw [if_neg e] at h
  cases hb:(FI (yN p a).Next s||FI (yN p s).Next a) <;> rw [hb] at h <;> simp at h
theorem Qr {o:List bD} {r:bD} {c:Bool} (h:o.length<100):((bif c then ((app o [r]).bind fun v=>some v) else (some o)):Option (List bD))=some (o ++ bif c then [r] else []):=by
 have hlim:lim ≥ 1000000:=by decide
 cases c with
 | false=>rw [mD,mD,List.append_nil]
 | true=>rw [lW,lW,A7 (by simp only [List.length_singleton];omega)];rfl
theorem J4 {r:bD} {c:Bool}:(bif c then [r] else []).length≤1:=by cases c <;> simp
theorem WQ {r:bD}:[r].filter (fun r=>!r.Names.isEmpty)=bif !r.Names.isEmpty then [r] else []:=by
 rw [List.filter_cons];cases r.Names.isEmpty <;> rfl
include hp ho hN b in
theorem Oe (ps:Tv p A) {i:Nat} (hi:i<p.ak.length):mW N (toR p A) (i:Int)=some (Eh p A p.ak[i]!):=by
 have hm:=hp.m
 have hlim:lim ≥ 1000000:=by decide
 have hx:=rC hi
 unfold mW
 show ((idx p.ak (i:Int)).bind fun v1=>_)=_
 rw [zK hi,bS]
 have hopen:dX (kP N (toR p A) (i:Int)) N ([],0)=some (nH p A (fun y=>yA p y p.ak[i]!)):=by
  rw [CQ (f:=kP N (toR p A) (i:Int)) p.ak [] (fun y=>decide (stA A y.Name=2)&&yA p y p.ak[i]!) (fun y=>y.Name) (fun a i=>(a,i)) (fun a=>a) (fun j hj acc hacc=>?_) (fun acc=>?_) (by omega)]
  ·rfl
  ·simp only [List.length_nil] at hacc
   unfold kP
   simp only []
   show (bif (aG .lss (j:Int) (List.length (uy p (stA A)):Int)) then ((idx (uy p (stA A)) (j:Int)).bind fun v12=>(bif (aG .eql v12 2) then (wC N p (i:Int) (j:Int)) else some false).bind fun v13=>bif ((aG .eql v12 2)&&v13) then ((idx p.ak (j:Int)).bind fun v14=>(app acc [v14.Name]).bind fun v15=>some (Sum.inl (v15,(IntKind.i64.wrap ((j:Int)+1))))) else (some (.inl (acc,(IntKind.i64.wrap ((j:Int)+1)))))) else (some (.inr acc)))=_
   rw [uz,bU,dT (by omega),lW,BK hj,bS,TD hp ho hi hj hN,zK hj,bS,qX (by omega),jS,← DC hj,Lm p p.ak[i]!]
   cases decide (stA A p.ak[j]!.Name=2) with
   | false=>rfl
   | true =>
    cases yA p p.ak[j]! p.ak[i]! with
    | false=>rfl
    | true=>simp only [Bool.true_and,lW,bS];rw [A7 (by simp only [List.length_singleton];omega)];rfl
  ·unfold kP
   simp only []
   show (bif (aG .lss (p.ak.length:Int) (List.length (uy p (stA A)):Int)) then _ else _)=_
   rw [uz,bU,dF (by omega),mD]
 rw [MJ hp ho hN hi,hopen,Oi hp ho hN b hi,Le hp hN b ps (ho.pk _ hx).2.2.2.2]
 simp only [bS,gt0]
 unfold Eh
 generalize Fp A p.ak[i]! = u
 generalize nH p A (fun y=>yA p y p.ak[i]!)=o
 generalize BA p A p.ak[i]! = l
 generalize vG A (fun t=>decide (lI p t p.ak[i]!.Space≤1))=q
 rw [bU,jS]
 show ((bif decide (A.now<p.ak[i]!.From) then ((app [] [(⟨2,[]⟩:bD)]).bind fun v2=>some v2) else (some [])).bind fun o4=>_)=_
 generalize decide (A.now<p.ak[i]!.From)=c0
 generalize decide (p.ak[i]!.Kind=3)=c3
 rw [Qr (by simp),bS]
 have l1:(([]:List bD) ++ bif c0 then [(⟨2,[]⟩:bD)] else []).length≤1:=by rw [List.nil_append];exact J4
 rw [Qr (Nat.lt_of_le_of_lt l1 (by decide)),bS]
 have l2:((([]:List bD) ++ bif c0 then [(⟨2,[]⟩:bD)] else []) ++ bif !u.isEmpty then [(⟨18,u⟩:bD)] else []).length≤2:=by
  rw [List.length_append];exact Nat.add_le_add l1 J4
 rw [Qr (Nat.lt_of_le_of_lt l2 (by decide)),bS]
 have l3:(((([]:List bD) ++ bif c0 then [(⟨2,[]⟩:bD)] else []) ++ bif !u.isEmpty then [(⟨18,u⟩:bD)] else []) ++ bif !o.isEmpty then [(⟨20,o⟩:bD)] else []).length≤3:=by
  rw [List.length_append];exact Nat.add_le_add l2 J4
 rw [Qr (Nat.lt_of_le_of_lt l3 (by decide)),bS]
 rw [Qr (by rw [List.length_append];exact Nat.lt_of_le_of_lt (Nat.add_le_add l3 J4) (by decide))]
 congr 1
 rw [List.filter_append,show ([(⟨18,u⟩:bD),(⟨20,o⟩:bD),(⟨21,l⟩:bD)].filter fun r=>!r.Names.isEmpty)=(bif !u.isEmpty then [(⟨18,u⟩:bD)] else []) ++ ((bif !o.isEmpty then [(⟨20,o⟩:bD)] else []) ++ (bif !l.isEmpty then [(⟨21,l⟩:bD)] else [])) from by
  rw [List.filter_cons,List.filter_cons,List.filter_cons,List.filter_nil]
  cases u.isEmpty <;> cases o.isEmpty <;> cases l.isEmpty <;> rfl,show (bif c3 then [(⟨17,q⟩:bD)] else []).filter (fun r=>!r.Names.isEmpty)=(bif c3 && !q.isEmpty then [(⟨17,q⟩:bD)] else []) from by
  cases c3 with
  | false=>rfl
  | true=>exact WQ]
 simp only [List.nil_append,List.append_assoc]
end
end Go.KB
namespace Go.KB
set_option linter.unusedVariables false
theorem TF {p:GPermitPlan} {A A':AO} (hn:A'.now=A.now) (ht:A'.ts=A.ts) (hp:A'.pp=A.pp) (hb:∀ n,(A'.es n).AU=(A.es n).AU) (hto:∀ n,(A'.es n).zF=(A.es n).zF):({ toR p A with cO:=uy p (stA A') }:af)=toR p A':=by
 unfold toR
 rw [hn,ht,hp]
 simp only [hb,hto]
def DF (A:AO) (p:GPermitPlan) (E:Str→ah) (i:Nat):AO:={ A with es:=fun s=>bif En p i s then E s else A.es s }
section
variable {p:GPermitPlan} {A:AO} {E:Str→ah}
theorem Va {i:Nat} (hi:i<p.ak.length) {n:Str}:stA (DF A p E (i+1)) n=bif decide (n=p.ak[i]!.Name) then (E n).state else stA (DF A p E i) n:=by
 show (bif En p (i+1) n then E n else A.es n).state=bif decide (n=p.ak[i]!.Name) then (E n).state else (bif En p i n then E n else A.es n).state
 rw [JD hi,DC hi,show decide (p.ak[i].Name=n)=decide (n=p.ak[i].Name) from decide_eq_decide.2 ⟨Eq.symm,Eq.symm⟩]
 cases En p i n <;> cases decide (n=p.ak[i].Name) <;> rfl
theorem TG (ho:EQ p) {i:Nat} (hi:i<p.ak.length):stA (DF A p E i) p.ak[i]!.Name=stA A p.ak[i]!.Name:=by
 show (bif En p i p.ak[i]!.Name then E p.ak[i]!.Name else A.es p.ak[i]!.Name).state=_
 have:En p i p.ak[i]!.Name=false:=by rw [DC hi];exact TI ho hi
 rw [this];rfl
theorem Qu (ho:EQ p) {i:Nat} (hi:i<p.ak.length) {v:Int} (hv:v=(E p.ak[i]!.Name).state):(uy p (stA (DF A p E i))).set i v=uy p (stA (DF A p E (i+1))):=by
 rw [MH ho hi]
 refine Ba fun x _=>?_
 rw [Va hi]
 by_cases e:x.Name=p.ak[i]!.Name
 ·rw [dT e,lW,lW,hv,e]
 ·rw [dF e];rfl
theorem FB (ho:EQ p) {i:Nat} (hi:i<p.ak.length) (hv:stA A p.ak[i]!.Name=(E p.ak[i]!.Name).state):uy p (stA (DF A p E i))=uy p (stA (DF A p E (i+1))):=by
 refine Ba fun x _=>?_
 rw [Va hi]
 by_cases e:x.Name=p.ak[i]!.Name
 ·rw [dT e,lW,e,← hv,TG ho hi]
 ·rw [dF e];rfl
theorem Qv:uy p (stA (DF A p E 0))=uy p (stA A):=Ba fun x _=>by
 show (bif En p 0 x.Name then E x.Name else A.es x.Name).state=_
 have:En p 0 x.Name=false:=by unfold En;simp
 rw [this];rfl
theorem TJ:uy p (stA (DF A p E p.ak.length))=uy p (fun n=>(E n).state):=Ba fun x hx=>by
 show (bif En p p.ak.length x.Name then E x.Name else A.es x.Name).state=_
 rw [MK,zL.2 ⟨x,hx,rfl⟩];rfl
end
section
variable {N:Nat} {p:GPermitPlan} {A:AO} (hp:FW p) (ho:EQ p) (hN:1000000≤N) (b:IL A)
include hp ho hN in
theorem Yq:dX (ny N (toR p A)) N (0,uy p (stA A))=some (uy p (stA (BX p A))):=by
 have hm:=hp.m
 have key:=A8 (N:=N) (n:=p.ak.length) (f:=ny N (toR p A)) (fun i=>((i:Int),uy p (stA (DF A p (fun s=>BZ A.now (A.es s)) i)))) (uy p (stA (DF A p (fun s=>BZ A.now (A.es s)) p.ak.length))) (fun i hi=>?_) ?_ (by omega)
 ·rw [Qv,TJ] at key
  rw [show ((0:Nat):Int)=0 from rfl] at key
  rw [key]
  congr 1
  refine Ba fun x hx=>?_
  show _=(bif l9 p x.Name then BZ A.now (A.es x.Name) else A.es x.Name).state
  rw [zL.2 ⟨x,hx,rfl⟩];rfl
 ·unfold ny
  simp only []
  show (bif (aG .lss (i:Int) (List.length (uy p (stA (DF A p (fun s=>BZ A.now (A.es s)) i))):Int)) then ((idx (uy p (stA (DF A p (fun s=>BZ A.now (A.es s)) i))) (i:Int)).bind fun v8=>(bif (aG .leq v8 3) then (idx (uy p (fun n=>(A.es n).zF)) (i:Int)) else some 0).bind fun v9=>bif ((aG .leq v8 3)&&(aG .leq v9 A.now)) then ((idx (uy p (stA (DF A p (fun s=>BZ A.now (A.es s)) i))) (i:Int)).bind fun v10=>some (Sum.inl ((IntKind.i64.wrap ((i:Int)+1)),(List.set (uy p (stA (DF A p (fun s=>BZ A.now (A.es s)) i))) (Int.toNat (i:Int)) 6)))) else (some (Sum.inl ((IntKind.i64.wrap ((i:Int)+1)),uy p (stA (DF A p (fun s=>BZ A.now (A.es s)) i)))))) else (some (Sum.inr (uy p (stA (DF A p (fun s=>BZ A.now (A.es s)) i))))))=_
  rw [uz,bU,dT (by omega),lW,BK hi,bS,BK hi,TG ho hi,qX (by omega),bS,Int.toNat_natCast]
  simp only [wM]
  cases h1:decide (stA A p.ak[i]!.Name≤3) with
  | false =>
   simp only [mD,bS,Bool.false_and]
   rw [FB ho hi (by show stA A _=(BZ _ _).state;unfold BZ;rw [show decide ((A.es p.ak[i]!.Name).state≤3)=false from h1];rfl)]
  | true =>
   simp only [lW,bS,Bool.true_and]
   cases h2:decide ((A.es p.ak[i]!.Name).zF≤A.now) with
   | false =>
    rw [mD]
    rw [FB ho hi (by show stA A _=(BZ _ _).state;unfold BZ;rw [h2,Bool.and_false];rfl)]
   | true =>
    rw [lW]
    rw [Qu ho hi (by show (6:Int)=(BZ _ _).state;unfold BZ;rw [show decide ((A.es p.ak[i]!.Name).state≤3)=true from h1,h2];rfl)]
 ·unfold ny
  simp only []
  rw [uz,bU,dF (by omega),mD]
theorem jJy {p:GPermitPlan} {B:AO} {n:Str}:((zX p B).es n).AU=(B.es n).AU:=by
 show (bif _ then ({ B.es n with state:=3 }:ah) else B.es n).AU=_
 cases (l9 p n&&decide (stA B n=2)&&yP p B (tK p n)) <;> rfl
theorem jJu {p:GPermitPlan} {A:AO} {n:Str}:((BX p A).es n).AU=(A.es n).AU:=by
 show (bif l9 p n then BZ A.now (A.es n) else A.es n).AU=_
 unfold BZ
 cases l9 p n <;> cases (decide ((A.es n).state≤3)&&decide ((A.es n).zF≤A.now)) <;> rfl
theorem RI {p:GPermitPlan} {A:AO} {n:Str}:((iy p A).es n).AU=(A.es n).AU:=jJy.trans jJu
include hp ho hN in
theorem RJ {B:AO} (b:IL B) (hn:B.now=A.now) (ht:B.ts=A.ts) (hpp:B.pp=A.pp) (hb:∀ n,(B.es n).AU=(A.es n).AU) (hto:∀ n,(B.es n).zF=(A.es n).zF):dX (nC N (toR p A)) N (false,0,uy p (stA B))=some (p.ak.any (fun x=>decide (stA B x.Name=2)&&yP p B x),uy p (stA (zX p B))):=by
 have hm:=hp.m
 have key:=A8 (N:=N) (n:=p.ak.length) (f:=nC N (toR p A)) (fun i=>((p.ak.take i).any (fun x=>decide (stA B x.Name=2)&&yP p B x),(i:Int),uy p (stA (DF B p (zX p B).es i)))) ((p.ak.take p.ak.length).any (fun x=>decide (stA B x.Name=2)&&yP p B x),uy p (stA (DF B p (zX p B).es p.ak.length))) (fun i hi=>?_) ?_ (by omega)
 ·rw [Qv,TJ,List.take_length] at key
  exact key
 ·have hx:=rC hi
  have hh:l9 p p.ak[i]!.Name=true:=zL.2 ⟨_,hx,rfl⟩
  have hC:({ toR p A with cO:=uy p (stA (DF B p (zX p B).es i)) }:af)=toR p (DF B p (zX p B).es i):=TF hn ht hpp (fun n=>by
    show (bif En p i n then (zX p B).es n else B.es n).AU=_
    rw [← hb n]
    cases En p i n
    ·rfl
    ·exact jJy) (fun n=>by
    show (bif En p i n then (zX p B).es n else B.es n).zF=_
    rw [← hto n]
    cases En p i n
    ·rfl
    ·exact jJg)
  have bC:IL (DF B p (zX p B).es i):=⟨b.tm,fun s=>by
    show 0≤(bif En p i s then (zX p B).es s else B.es s).state∧(bif En p i s then (zX p B).es s else B.es s).state≤6
    cases En p i s
    ·exact b.st s
    ·exact (b.sus (p:=p)).st s,b.tt,b.pl⟩
  have hla:BA p (DF B p (zX p B).es i) p.ak[i]! = BA p B p.ak[i]!:=rfl
  have hun:Fp (DF B p (zX p B).es i) p.ak[i]! = Fp B p.ak[i]!:=by
   unfold Fp
   refine List.filter_congr fun l hl=>?_
   have:=ho.lk _ hx l hl
   have e:stA (DF B p (zX p B).es i) l=stA B l:=by
    show (bif En p i l then (zX p B).es l else B.es l).state=_
    rw [XL ho this.1 this.2.1]
    cases En p i l <;> rfl
   rw [e]
  have hany:(p.ak.take (i+1)).any (fun x=>decide (stA B x.Name=2)&&yP p B x)=((p.ak.take i).any (fun x=>decide (stA B x.Name=2)&&yP p B x)||(decide (stA B p.ak[i]!.Name=2)&&yP p B p.ak[i]!)):=by
   rw [List.take_succ_eq_append_getElem hi,List.any_append,DC hi];simp
  have Yr:((zX p B).es p.ak[i]!.Name).state=(bif decide (stA B p.ak[i]!.Name=2)&&yP p B p.ak[i]! then 3 else stA B p.ak[i]!.Name):=by
   show (bif l9 p p.ak[i]!.Name&&decide (stA B p.ak[i]!.Name=2)&&yP p B (tK p p.ak[i]!.Name) then ({ B.es p.ak[i]!.Name with state:=3 }:ah) else B.es p.ak[i]!.Name).state=_
   rw [hh,ho.Fq hx,Bool.true_and]
   cases (decide (stA B p.ak[i]!.Name=2)&&yP p B p.ak[i]!) <;> rfl
  have l1:(BA p B p.ak[i]!).length<2000:=Nat.lt_of_le_of_lt (List.length_filter_le _ _) (Qw hp)
  have l2:(Fp B p.ak[i]!).length<1000:=Nat.lt_of_le_of_lt (List.length_filter_le _ _) (hp.l _ hx)
  have hbad:aG .gtr (IntKind.i64.wrap (((BA p B p.ak[i]!).length:Int)+((Fp B p.ak[i]!).length:Int))) 0=yP p B p.ak[i]!:=by
   rw [w64i (by omega) (by omega),uP]
   unfold yP
   cases hL:BA p B p.ak[i]! with
   | nil =>
    cases hU:Fp B p.ak[i]! with
    | nil=>rfl
    | cons y r=>exact dT (by simp only [List.length_nil,List.length_cons];omega)
   | cons y r=>exact dT (by simp only [List.length_cons];omega)
  unfold nC
  simp only []
  rw [hC,uz,bU,dT (by omega),lW,BK hi,bS,TG ho hi,Oi hp ho hN bC hi,MJ hp ho hN hi,hla,hun,qX (by omega),Int.toNat_natCast,jS,hany]
  cases h2:decide (stA B p.ak[i]!.Name=2) with
  | false =>
   simp only [mD,bS,Bool.false_and,Bool.or_false]
   rw [FB ho hi (by rw [Yr,h2];rfl)]
  | true =>
   simp only [lW,bS,Bool.true_and]
   rw [hbad]
   cases hbd:yP p B p.ak[i]! with
   | false =>
    rw [mD,Bool.or_false]
    rw [FB ho hi (by rw [Yr,h2,hbd];rfl)]
   | true =>
    rw [lW,Bool.or_true,Qu ho hi (by rw [Yr,h2,hbd];rfl)]
 ·unfold nC
  simp only []
  rw [uz,bU,dF (by omega),mD]
theorem WR {R:af} (h1:R.cO.length<1000000) (h2:R.By.length<1000000) (h3:R.To.length<1000000) (h4:R.Tests.length<1000000) (h5:R.oV.length<1000000):lX N R=some R:=by
 have hlim:lim ≥ 1000000:=by decide
 have hc:∀ {l:List Int},l.length<1000000→um N l=some l:=fun {l} h=>by
  unfold um
  rw [A7 (by simp only [List.length_nil];omega)];rfl
 unfold lX
 rw [hc h1,bS]
 simp only []
 rw [A7 (by simp only [List.length_nil];omega),bS,hc h3,bS,A7 (by simp only [List.length_nil];omega),bS,A7 (by simp only [List.length_nil];omega),bS]
 simp only [List.nil_append]
include hp b in
theorem JE:lX N (toR p A)=some (toR p A):=by
 have h1:=hp.m
 have h2:=hp.s
 have h3:=b.pl
 have e:∀ {β:Type} {F:Str→β},(uy p F).length<1000000:=fun {β F}=>by rw [uz];omega
 have e':∀ {β:Type} {F:Str→β},(OZ p F).length<1000000:=fun {β F}=>by rw [J6];omega
 exact WR (e (F:=stA A)) (e (F:=fun n=>(A.es n).AU)) (e (F:=fun n=>(A.es n).zF)) (e' (F:=fun s=>Ll (A.ts s))) (by show (A.pp.map J5).length<_;rw [List.length_map];omega)
include hp ho hN b in
theorem Qy:qw N (toR p A)=some (toR p (iy p A)):=by
 unfold qw
 rw [JE hp b,bS]
 show ((dX (ny N (toR p A)) N (0,uy p (stA A))).bind fun VB=>_)=_
 rw [Yq hp ho hN,bS]
 have h2:=RJ (A:=A) (B:=BX p A) hp ho hN b.exp rfl rfl rfl (fun n=>jJu) (fun n=>jJb)
 have h3:=RJ (A:=A) (B:=iy p A) hp ho hN b.settle rfl rfl rfl (fun n=>RI) (fun n=>J7)
 have e3:p.ak.any (fun x=>decide (stA (iy p A) x.Name=2)&&yP p (iy p A) x)=false:=by
  rw [Bool.eq_false_iff]
  intro hx
  rw [List.any_eq_true] at hx
  obtain ⟨x,hx,hb⟩:=hx
  rw [Bool.and_eq_true,decide_eq_true_eq] at hb
  rw [D5 ho hx hb.1] at hb
  cases hb.2
 have e4:uy p (stA (zX p (iy p A)))=uy p (stA (iy p A)):=Ba fun x hx=>by
  rcases NJ (p:=p) (A:=iy p A) (s:=x.Name) with ⟨e,_⟩ | ⟨_,e5,e6⟩
  ·exact e
  ·rw [ho.Fq hx,D5 ho hx e5] at e6;cases e6
 rw [e3,e4] at h3
 change dX _ N (false,0,uy p (stA (BX p A)))=some (_,uy p (stA (iy p A))) at h2
 generalize p.ak.any (fun x=>decide (stA (BX p A) x.Name=2)&&yP p (BX p A) x)=f2 at h2
 have fin:({ toR p A with cO:=uy p (stA (iy p A)) }:af)=toR p (iy p A):=TF rfl rfl rfl (fun n=>RI) (fun n=>J7)
 obtain ⟨M,rfl⟩:∃ M,N=M+3:=⟨N - 3,by omega⟩
 have step:∀ (st:List Int) (o:Bool×List Int),dX (nC (M+3) (toR p A)) (M+3) (false,0,st)=some o→oz (M+3) (toR p A) (true,st)=some (.inl o):=by
  intro st o ho
  unfold oz
  rw [lW,ho];rfl
 have stop:∀ st:List Int,oz (M+3) (toR p A) (false,st)=some (.inr st):=fun st=>rfl
 have hl:dX (oz (M+3) (toR p A)) (M+3) (true,uy p (stA (BX p A)))=some (uy p (stA (iy p A))):=by
  cases f2 with
  | false=>simp only [dX,step _ _ h2,stop]
  | true=>simp only [dX,step _ _ h2,step _ _ h3,stop]
 rw [hl,bS,fin]
end
end Go.KB
namespace Go.KB
set_option linter.unusedVariables false
theorem any_map {α β:Type} {g:α→Bool} {h:α→β} {l:List α}:(!((l.filter g).map h).isEmpty)=l.any g:=by
 induction l with
 | nil=>rfl
 | cons x r ih =>
  rw [List.filter_cons,List.any_cons]
  cases hg:g x with
  | true=>rfl
  | false=>rw [Bool.false_or];exact ih
theorem RN {α:Type} [Inhabited α] {g:α→Bool} {l:List α}:((List.range l.length).any fun k=>g l[k]!)=l.any g:=by
 rw [Bool.eq_iff_iff,List.any_eq_true,List.any_eq_true]
 constructor
 ·rintro ⟨k,hk,h⟩;rw [List.mem_range] at hk;exact ⟨_,rC hk,h⟩
 ·rintro ⟨x,hx,h⟩
  obtain ⟨k,hk,rfl⟩:=List.getElem_of_mem hx
  exact ⟨k,List.mem_range.2 hk,by rw [DC hk];exact h⟩
section
variable {β:Type} {p:GPermitPlan} {F:Str→β}
theorem JF (ho:EQ p) {i:Nat} (hi:i<p.ak.length):(uy p F).set i (F p.ak[i]!.Name)=uy p F:=by
 rw [MH ho hi]
 refine Ba fun x _=>?_
 by_cases e:x.Name=p.ak[i]!.Name
 ·rw [dT e,lW,e]
 ·rw [dF e];rfl
theorem jJd (ho:EQ p) {A:AO} {i:Nat} (hi:i<p.ak.length) {e:ah}:toR p (WS A p.ak[i]!.Name e)={ toR p A with cO:=(uy p (stA A)).set i e.state,By:=(uy p fun n=>(A.es n).AU).set i e.AU,To:=(uy p fun n=>(A.es n).zF).set i e.zF }:=by
 rw [MH ho hi,MH ho hi,MH ho hi]
 have h:∀ {γ:Type} (f:ah→γ),(uy p fun n=>f ((WS A p.ak[i]!.Name e).es n))=uy p fun n=>bif decide (n=p.ak[i]!.Name) then f e else f (A.es n):=fun f=>Ba fun x _=>by
  show f (bif decide (x.Name=p.ak[i]!.Name) then e else A.es x.Name)=_
  cases decide (x.Name=p.ak[i]!.Name) <;> rfl
 show (⟨p,A.now,_,_,_,_,_⟩:af)=⟨p,A.now,_,_,_,_,_⟩
 congr 1
 ·exact h (fun e=>e.state)
 ·exact h (fun e=>e.AU)
 ·exact h (fun e=>e.zF)
theorem toR_be (ho:EQ p) {A:AO} {i:Nat} (hi:i<p.ak.length) {k:Int}:toR p (QS A p.ak[i]!.Name k)={ toR p A with cO:=(uy p (stA A)).set i k }:=by
 unfold QS
 rw [jJd ho hi]
 have h1:=JF (F:=fun n=>(A.es n).AU) ho hi
 have h2:=JF (F:=fun n=>(A.es n).zF) ho hi
 rw [h1,h2];rfl
end
section
variable {N:Nat} {p:GPermitPlan} {A:AO} (hp:FW p) (ho:EQ p) (hN:1000000≤N) (b:IL A)
include hN b in
theorem RP {n:Str}:sF N (toR p A) n=some (Hq (fun q=>decide (q.1=n)) A.pp):=by
 have hb:=b.pl
 unfold sF
 refine zT (fun i hi=>?_) ?_ (by omega)
 ·unfold sG
  show (bif (aG .lss (i:Int) (List.length (A.pp.map J5):Int)) then ((idx (A.pp.map J5) (i:Int)).bind fun v2=>bif (Ag .eql v2.Name n) then (some (Sum.inr (Sum.inr (i:Int)))) else (some (Sum.inl (IntKind.i64.wrap ((i:Int)+1))))) else (some (Sum.inr (Sum.inl ()))))=_
  rw [List.length_map,bU,dT (by omega),lW,jK (by rw [List.length_map];exact hi),List.getElem_map,bS,ru,qX (by omega)];rfl
 ·unfold sG
  show (bif (aG .lss (A.pp.length:Int) (List.length (A.pp.map J5):Int)) then _ else _)=_
  rw [List.length_map,bU,dF (by omega),mD]
include hp hN in
theorem RQ {s:Str} {k:Int}:iP N (toR p A) s k=some ((List.range p.ak.length).any fun j=>!decide ((j:Int)=k)&&(decide (stA A p.ak[j]!.Name=2)&&(decide (p.ak[j]!.Kind=1)&&decide (p.ak[j]!.Space=s)))):=by
 have hm:=hp.m
 have h:=Qz (l:=List.range p.ak.length) (N:=N) (f:=kV N (toR p A) s k) (g:=fun j=>!decide ((j:Int)=k)&&(decide (stA A p.ak[j]!.Name=2)&&(decide (p.ak[j]!.Kind=1)&&decide (p.ak[j]!.Space=s)))) (fun i hi=>?_) ?_ (by rw [List.length_range];omega)
 ·exact h
 ·rw [List.length_range] at hi
  unfold kV
  show (bif (aG .lss (i:Int) (List.length (uy p (stA A)):Int)) then ((idx p.ak (i:Int)).bind fun v2=>(bif (aG .neq (i:Int) k) then (idx (uy p (stA A)) (i:Int)) else some 0).bind fun v3=>bif ((((aG .neq (i:Int) k)&&(aG .eql v3 2))&&(aG .eql v2.Kind 1))&&(Ag .eql v2.Space s)) then (some (Sum.inr (Sum.inr true))) else (some (Sum.inl (IntKind.i64.wrap ((i:Int)+1))))) else (some (Sum.inr (Sum.inl ()))))=_
  rw [uz,bU,dT (by omega),lW,zK hi,bS,BK hi,wu,qX (by omega),List.getElem_range]
  simp only [jS,ru]
  cases decide ((i:Int)=k) with
  | true=>rfl
  | false=>simp only [Bool.not_false,lW,bS,Bool.true_and,Bool.and_assoc]
 ·unfold kV
  rw [List.length_range]
  show (bif (aG .lss (p.ak.length:Int) (List.length (uy p (stA A)):Int)) then _ else _)=_
  rw [uz,bU,dF (by omega),mD]
include hp hN in
theorem Oc {s:Str}:iP N (toR p A) s (-1)=some (tu p A s):=by
 rw [RQ hp hN]
 congr 1
 unfold tu nH
 rw [any_map,← RN (l:=p.ak)]
 congr 1
include hp ho hN in
theorem Yt {i:Nat} (hi:i<p.ak.length) {s:Str}:iP N (toR p A) s (i:Int)=some (!(nH p A (fun z=>decide (z.Kind=1)&&decide (z.Space=s) && !decide (z.Name=p.ak[i]!.Name))).isEmpty):=by
 rw [RQ hp hN]
 congr 1
 unfold nH
 rw [any_map,← RN (l:=p.ak),Bool.eq_iff_iff,List.any_eq_true,List.any_eq_true]
 have e:∀ j,j ∈ List.range p.ak.length→decide ((j:Int)=(i:Int))=decide (p.ak[j]!.Name=p.ak[i]!.Name):=fun j hj=>by
  rw [List.mem_range] at hj
  exact decide_eq_decide.2 ⟨fun h=>by rw [show j=i by omega],fun h=>by rw [ho.pd j i hj hi h]⟩
 constructor
 ·rintro ⟨j,hj,h⟩
  refine ⟨j,hj,?_⟩
  rw [e j hj] at h
  simp only [Bool.and_eq_true] at h ⊢
  exact ⟨h.2.1,h.2.2,h.1⟩
 ·rintro ⟨j,hj,h⟩
  refine ⟨j,hj,?_⟩
  rw [e j hj]
  simp only [Bool.and_eq_true] at h ⊢
  exact ⟨h.2.2,h.1,h.2.1⟩
theorem WT {op st:Int} {l:List Int} (h0:0≤op) (h12:op<12) (h:yD op=some l):zB N op st=some (l.contains st):=by
 rcases Hl h0 h12 with e | e | e | e | e | e | e | e | e | e | e | e <;> subst e <;> first | (cases h;done) | (cases h;unfold zB;simp only [jS,Int.reduceEq,decide_true,decide_false,lW,mD];congr 1;rw [Bool.eq_iff_iff];simp [or_assoc])
def almE (p:GPermitPlan) (A:AO) (sp s:Str):ah:=bif decide (stA A s=2)&&(!decide ((tK p s).Kind=5)&&decide (lI p (tK p s).Space sp≤1)) then { A.es s with state:=3 } else A.es s
def almA (p:GPermitPlan) (A:AO) (sp:Str):AO:={ A with es:=fun s=>bif l9 p s&&decide (stA A s=2)&&(!decide ((tK p s).Kind=5)&&decide (lI p (tK p s).Space sp≤1)) then { A.es s with state:=3 } else A.es s }
theorem Tz {α:Type} {l:List α} {g:α→Bool}:decide (Hq g l<0) = !l.any g:=Gy
include hp ho hN in
theorem RS {x:GEvent} (e:x.Op=7∨x.Op=10):jc N (toR p A) x=some (toR p (yh p A x).1,⟨(yh p A x).2.2,(yh p A x).2.1⟩):=by
  have hs:=hp.s
  have hm:=hp.m
  unfold jc
  rcases e with e | e
  · have hR:yh p A x=Vb p A x:=by
      unfold yh yD xN;simp only [e,Int.reduceEq,if_false,if_true]
    rw [hR]
    unfold Vb
    simp only [e,jS,Int.reduceEq,decide_true,decide_false,lW,mD,Bool.or_self,Bool.false_and,bS]
    show ((jh N p x.Space).bind fun v10=>_)=_
    rw [wF (by omega) hN,bS,bU,Tz]
    show (bif !uY p x.Space then _ else _)=_
    cases hh:uY p x.Space with
    | false=>rfl
    | true =>
      obtain ⟨i,hi,e1,e2⟩:=ixS hh
      have hn:p.bM[i]!.Name=x.Space:=by rw [e2];exact (MI hh).2
      simp only [Bool.not_true,mD,bU,uP]
      cases (decide (x.qx<0)||decide (1000<x.qx)||decide (x.IW<0)||decide (1000<x.IW)) with
      | true=>rfl
      | false =>
        rw [mD,mD,e1]
        show ((idx (OZ p fun s=>Ll (A.ts s)) (i:Int)).bind fun v13=>_)=_
        rw [jJv hi,bS,Int.toNat_natCast]
        show some (({ toR p A with Tests:=(OZ p fun s=>Ll (A.ts s)).set i (⟨true,A.now,x.qx,x.IW⟩:dQ) }:af),(⟨0,[]⟩:bg))=some (toR p { A with ts:=fun s=>bif decide (s=x.Space) then some ⟨A.now,x.qx,x.IW⟩ else A.ts s },⟨0,[]⟩)
        rw [jXq ho hi,hn]
        congr 2
        show (⟨p,A.now,_,_,_,_,_⟩:af)=⟨p,A.now,_,_,_,_,_⟩
        congr 1
        refine Yp fun s _=>?_
        show (bif decide (s.Name=x.Space) then _ else Ll (A.ts s.Name))=Ll (bif decide (s.Name=x.Space) then some ⟨A.now,x.qx,x.IW⟩ else A.ts s.Name)
        cases decide (s.Name=x.Space) <;> rfl
  · have hR:yh p A x=JG p A x:=by
      unfold yh yD xN;simp only [e,Int.reduceEq,if_false,if_true]
    rw [hR]
    unfold JG
    simp only [e,jS,Int.reduceEq,decide_true,decide_false,lW,mD,Bool.or_self,Bool.false_and,bS]
    show ((jh N p x.Space).bind fun v10=>_)=_
    rw [wF (by omega) hN,bS,bU,Tz]
    show (bif !uY p x.Space then _ else _)=_
    cases hh:uY p x.Space with
    | false=>rfl
    | true =>
      simp only [Bool.not_true,mD]
      have key:=A8 (N:=N) (n:=p.ak.length) (f:=jH N (toR p A) x) (fun i=>((i:Int),uy p (stA (DF A p (almE p A x.Space) i)))) (uy p (stA (DF A p (almE p A x.Space) p.ak.length))) (fun i hi=>?_) ?_ (by omega)
      · rw [Qv, TJ, show ((0 : Nat) : Int) = 0 from rfl] at key
        have key2:dX (jH N (toR p A) x) N (0,uy p (stA A))=some (uy p (stA (almA p A x.Space))):=key.trans (congrArg some (Ba fun y hy=>by
          show (almE p A x.Space y.Name).state=(bif l9 p y.Name&&decide (stA A y.Name=2)&&(!decide ((tK p y.Name).Kind=5)&&decide (lI p (tK p y.Name).Space x.Space≤1)) then ({ A.es y.Name with state:=3 }:ah) else A.es y.Name).state
          rw [zL.2 ⟨y,hy,rfl⟩,Bool.true_and];rfl))
        show ((dX (jH N (toR p A) x) N (0,uy p (stA A))).bind fun o51=>_)=_
        rw [key2,bS]
        have h1:∀ {γ:Type} (f:ah→γ),(∀ e k,f { e with state:=k }=f e)→∀ n,f ((almA p A x.Space).es n)=f (A.es n):=fun f hf n=>by
          show f (bif l9 p n&&decide (stA A n=2)&&(!decide ((tK p n).Kind=5)&&decide (lI p (tK p n).Space x.Space≤1)) then { A.es n with state:=3 } else A.es n)=_
          cases (l9 p n&&decide (stA A n=2)&&(!decide ((tK p n).Kind=5)&&decide (lI p (tK p n).Space x.Space≤1)))
          · rfl
          · exact hf _ _
        show some (({ toR p A with cO:=uy p (stA (almA p A x.Space)) }:af),(⟨0,[]⟩:bg))=some (toR p (almA p A x.Space),⟨0,[]⟩)
        rw [TF (A:=A) (A':=almA p A x.Space) rfl rfl rfl (h1 (fun e=>e.AU) fun _ _=>rfl) (h1 (fun e=>e.zF) fun _ _=>rfl)]
      · have hx:=rC hi
        have hsp:uY p p.ak[i]!.Space=true:=(ho.pk _ hx).2.2.2.2
        unfold jH
        simp only []
        rw [uz,bU,dT (by omega),lW]
        show ((idx p.ak (i:Int)).bind fun v45=>_)=_
        rw [zK hi,bS,BK hi,TG ho hi,bS,show nI N (toR p A).P p.ak[i]!.Space x.Space=some (lI p p.ak[i]!.Space x.Space) from CS hp hsp hh hN,qX (by omega),Int.toNat_natCast]
        simp only [jS,wu,wM,bS]
        have hE:∀ c,(decide (stA A p.ak[i]!.Name=2)&&(!decide (p.ak[i]!.Kind=5)&&decide (lI p p.ak[i]!.Space x.Space≤1)))=c→(almE p A x.Space p.ak[i]!.Name).state=bif c then 3 else stA A p.ak[i]!.Name:=fun c hc=>by
          unfold almE
          rw [ho.Fq hx,hc]
          cases c <;> rfl
        cases h2:decide (stA A p.ak[i]!.Name=2) with
        | false =>
          simp only [Bool.false_and,mD,bS]
          rw [FB ho hi (hE false (by rw [h2];rfl)).symm]
        | true =>
          cases h5:decide (p.ak[i]!.Kind=5) with
          | true =>
            simp only [Bool.not_true,Bool.and_false,Bool.false_and,mD,bS]
            rw [FB ho hi (hE false (by rw [h2,h5];rfl)).symm]
          | false =>
            cases hd:decide (lI p p.ak[i]!.Space x.Space≤1) with
            | false =>
              simp only [Bool.not_false,Bool.and_true,Bool.true_and,lW,mD,bS,hd]
              rw [FB ho hi (hE false (by rw [h2,h5,hd];rfl)).symm]
            | true =>
              simp only [Bool.not_false,Bool.and_true,Bool.true_and,lW,bS,hd]
              rw [Qu (v:=3) ho hi (hE true (by rw [h2,h5,hd];rfl)).symm]
      · unfold jH
        simp only []
        rw [uz,bU,dF (by omega),mD]
end
end Go.KB
namespace Go.KB
set_option linter.unusedVariables false
theorem Vd : ∀ (x y : Str), Op.bytesLess x y = decide (x < y)
 | [],[]=>by simp [Op.bytesLess]
 | _ :: _,[]=>by simp [Op.bytesLess]
 | [],_ :: _=>by simp [Op.bytesLess]
 | a :: x,b :: y=>by
  rw [Op.bytesLess,Vd x y]
  simp only [List.cons_lt_cons_iff]
  by_cases h1:a<b <;> by_cases h2:a=b <;> by_cases h3:x<y <;> simp [h1,h2,h3]
theorem Ve (a b:Str):Ag .lss a b=decide (a<b):=Vd a b
def Kt (l:List (Str×Str)) (n:Str):Nat:=l.findIdx fun q=>!decide (q.1<n)
theorem WU {l:List (Str×Str)} {n:Str}:Kt l n≤l.length:=List.findIdx_le_length
theorem jJf {n s:Str}:∀ {l:List (Str×Str)},Ku l n s=l.take (Kt l n) ++ (n,s) :: l.drop (Kt l n)
 | []=>rfl
 | q :: r=>by
  unfold Ku Kt
  rw [List.findIdx_cons]
  cases decide (q.1<n) with
  | false=>rfl
  | true =>
   simp only [Bool.not_true,lW,mD]
   rw [List.take_succ_cons,List.drop_succ_cons,List.cons_append]
   exact congrArg _ jJf
theorem jJh {n : Str} : ∀ {l : List (Str × Str)}, l.Pairwise (fun a b => a.1 < b.1) → l.any (fun q => decide (q.1 = n)) = true → l.filter (fun q => !decide (q.1 = n)) = l.take (l.findIdx fun q => decide (q.1 = n)) ++ l.drop ((l.findIdx fun q => decide (q.1 = n)) + 1)
  | [],_,h=>by cases h
  | q :: r,hp,h=>by
    rw [List.findIdx_cons,List.filter_cons]
    by_cases e:q.1=n
    · rw [dT e]
      simp only [Bool.not_true,Bool.false_eq_true,if_false,lW,Nat.zero_add,List.take_zero,List.nil_append,List.drop_succ_cons,List.drop_zero]
      refine List.filter_eq_self.2 fun a ha=>?_
      have:=(List.pairwise_cons.1 hp).1 a ha
      rw [e] at this
      rw [dF (fun h2=>by rw [h2] at this;exact List.lt_irrefl _ this)];rfl
    · rw [dF e]
      simp only [Bool.not_false,if_true,mD,List.take_succ_cons,List.drop_succ_cons,List.cons_append]
      rw [jJh (List.pairwise_cons.1 hp).2 (by rw [List.any_cons,dF e,Bool.false_or] at h;exact h)]
section
variable {N:Nat} {p:GPermitPlan} {A:AO} (hp:FW p) (ho:EQ p) (hN:1000000≤N) (b:IL A)
include hN b in
theorem Yu (hpp:A.pp.Pairwise (fun a b=>a.1<b.1)) {x:GEvent} (e:x.Op=9):jc N (toR p A) x=some (toR p (yh p A x).1,⟨(yh p A x).2.2,(yh p A x).2.1⟩):=by
 have hlim:lim ≥ 10000000:=by decide
 have hb:=b.pl
 unfold jc
 have hR:yh p A x=JH A x:=by
  unfold yh yD xN;simp only [e,Int.reduceEq,if_false,if_true]
 rw [hR]
 unfold JH
 simp only [e,jS,Int.reduceEq,decide_true,decide_false,lW,mD,Bool.false_or,Bool.true_and]
 rw [BR (by omega),bS]
 cases mZ x.Person with
 | false=>rfl
 | true =>
  simp only [Bool.not_true,mD]
  rw [RP hN b,bS,bU,Tz]
  show (bif !Bc A x.Person then _ else _)=_
  cases hi:Bc A x.Person with
  | false=>rfl
  | true =>
   simp only [Bool.not_true,mD]
   have hj:A.pp.findIdx (fun q=>decide (q.1=x.Person))<A.pp.length:=List.findIdx_lt_length.2 (by
    unfold Bc at hi;rw [List.any_eq_true] at hi;exact hi)
   have hout:=jJh hpp hi
   rw [DJ hj]
   generalize hk:A.pp.findIdx (fun q=>decide (q.1=x.Person))=k at hj hout
   rw [qX (by omega)]
   show ((OC (A.pp.map J5) 0 (k:Int)).bind fun v5=>(app ([]:(List eU)) v5).bind fun v6=>(OC (A.pp.map J5) ((k+1:Nat):Int) (List.length (A.pp.map J5):Int)).bind fun v7=>(app v6 v7).bind fun v8=>some (({ toR p A with oV:=v8 }:af),(⟨0,[]⟩:bg)))=_
   have e0:OC (A.pp.map J5) 0 (k:Int)=some ((A.pp.map J5).take k):=NK (a:=0) (Nat.zero_le _) (by rw [List.length_map];omega)
   have e1:OC (A.pp.map J5) ((k+1:Nat):Int) (List.length (A.pp.map J5):Int)=some ((A.pp.map J5).drop (k+1)):=by
    rw [NK (by rw [List.length_map];omega) (Nat.le_refl _),List.take_length]
   rw [e0,bS,A7 (by simp;omega),bS,e1,bS,List.nil_append,A7 (by simp;omega),bS,← List.map_take,← List.map_drop,← List.map_append,← hout]
   rfl
include hp ho hN b in
theorem Yv (hpp:A.pp.Pairwise (fun a b=>a.1<b.1)) {x:GEvent} (e:x.Op=8):jc N (toR p A) x=some (toR p (yh p A x).1,⟨(yh p A x).2.2,(yh p A x).2.1⟩):=by
  have hlim:lim ≥ 10000000:=by decide
  have hb:=b.pl
  have hs:=hp.s
  have hm:=hp.m
  unfold jc
  have hR:yh p A x=JI p A x:=by
    unfold yh yD xN;simp only [e,Int.reduceEq,if_false,if_true]
  rw [hR]
  unfold JI
  simp only [e,jS,Int.reduceEq,decide_true,decide_false,lW,mD,Bool.true_or,Bool.true_and]
  rw [BR (by omega),bS]
  cases mZ x.Person with
  | false=>rfl
  | true =>
    simp only [Bool.not_true,mD]
    show ((jh N p x.Space).bind fun v10=>_)=_
    rw [wF (by omega) hN,bS,bU,Tz]
    show (bif !uY p x.Space then _ else _)=_
    cases hh:uY p x.Space with
    | false=>rfl
    | true =>
      simp only [Bool.not_true,mD]
      obtain ⟨i,hi,e1,e2⟩:=ixS hh
      have hlt:=Tz (l:=A.pp) (g:=fun q=>decide (q.1=x.Person))
      rw [RP hN b,bS,CU,show decide (Hq (fun q=>decide (q.1=x.Person)) A.pp ≥ 0)=Bc A x.Person from by
        unfold Bc
        cases hy:A.pp.any (fun q=>decide (q.1=x.Person)) with
        | true=>rw [hy] at hlt;simp at hlt;exact dT (by omega)
        | false=>rw [hy] at hlt;simp at hlt;exact dF (by omega)]
      cases Bc A x.Person with
      | true=>rfl
      | false =>
        rw [mD,mD,e1]
        show ((idx p.bM (i:Int)).bind fun v17=>_)=_
        rw [zK hi,bS,e2,Oc hp hN]
        have hc:(bif (yN p x.Space).dD then some (tu p A x.Space) else some false)=some ((yN p x.Space).dD&&tu p A x.Space):=by cases (yN p x.Space).dD <;> rfl
        rw [hc,bS,show ((yN p x.Space).dD && !((yN p x.Space).dD&&tu p A x.Space))=((yN p x.Space).dD && !tu p A x.Space) from by cases (yN p x.Space).dD <;> rfl]
        cases ((yN p x.Space).dD && !tu p A x.Space) with
        | true=>rfl
        | false =>
          rw [mD,mD]
          rw [CQ (f:=mM N (toR p A) x) p.ak [] (fun y=>decide (stA A y.Name=2)&&(decide (y.Kind=3)&&decide (lI p y.Space x.Space≤1))) (fun y=>y.Name) (fun a i=>(a,i)) (fun a=>a) (fun j hj acc hacc=>?_) (fun acc=>?_) (by omega),bS,gt0]
          · show (bif !(nH p A (fun y => decide (y.Kind = 3) && decide (lI p y.Space x.Space ≤ 1))).isEmpty then some (toR p A, (⟨17, nH p A (fun y => decide (y.Kind = 3) && decide (lI p y.Space x.Space ≤ 1))⟩ : bg)) else _) = _
            cases (nH p A (fun y=>decide (y.Kind=3)&&decide (lI p y.Space x.Space≤1))).isEmpty with
            | false=>rfl
            | true =>
              simp only [Bool.not_true,mD]
              have hl1:dX (mO N (toR p A) x) N 0=some (Kt A.pp x.Person:Int):=by
                refine NM (n:=Kt A.pp x.Person) (fun _=>(Kt A.pp x.Person:Int)) (fun j hj=>.inl ⟨?_,rfl⟩) ?_ (by have:=WU (l:=A.pp) (n:=x.Person);omega)
                · have hjl:j<A.pp.length:=Nat.lt_of_lt_of_le hj WU
                  have hn:=List.not_of_lt_findIdx (p:=fun q:Str×Str=>!decide (q.1<x.Person)) (xs:=A.pp) (i:=j) hj
                  unfold mO
                  show ((bif (aG .lss (j:Int) (List.length (A.pp.map J5):Int)) then (idx (A.pp.map J5) (j:Int)) else some (⟨[],[]⟩:eU)).bind fun v30=>bif ((aG .lss (j:Int) (List.length (A.pp.map J5):Int))&&(Ag .lss v30.Name x.Person)) then (some (Sum.inl (IntKind.i64.wrap ((j:Int)+1)))) else (some (Sum.inr (j:Int))))=_
                  rw [List.length_map,bU,dT (by omega),lW,jK (by rw [List.length_map];exact hjl),List.getElem_map,bS,Ve,qX (by omega)]
                  show (bif true&&decide (A.pp[j].1<x.Person) then _ else _)=_
                  have hn':decide (A.pp[j].1<x.Person)=true:=by simpa using hn
                  rw [hn'];rfl
                · unfold mO
                  show ((bif (aG .lss (Kt A.pp x.Person:Int) (List.length (A.pp.map J5):Int)) then (idx (A.pp.map J5) (Kt A.pp x.Person:Int)) else some (⟨[],[]⟩:eU)).bind fun v30=>bif ((aG .lss (Kt A.pp x.Person:Int) (List.length (A.pp.map J5):Int))&&(Ag .lss v30.Name x.Person)) then (some (Sum.inl (IntKind.i64.wrap ((Kt A.pp x.Person:Int)+1)))) else (some (Sum.inr (Kt A.pp x.Person:Int))))=_
                  rw [List.length_map,bU]
                  by_cases hl:Kt A.pp x.Person<A.pp.length
                  · rw [dT (by omega), lW, jK (by rw [List.length_map]; exact hl), List.getElem_map, bS, Ve]
                    have hf:=List.findIdx_getElem (p:=fun q:Str×Str=>!decide (q.1<x.Person)) (xs:=A.pp) (w:=hl)
                    show (bif true&&decide (A.pp[Kt A.pp x.Person].1<x.Person) then _ else _)=_
                    have hf':decide (A.pp[Kt A.pp x.Person].1<x.Person)=false:=by rw [Bool.not_eq_true'] at hf;exact hf
                    rw [hf'];rfl
                  · rw [dF (by omega)];rfl
              rw [hl1,bS]
              have hk:=WU (l:=A.pp) (n:=x.Person)
              have hins:=jJf (l:=A.pp) (n:=x.Person) (s:=x.Space)
              generalize Kt A.pp x.Person=k at hk hins
              show ((OC (A.pp.map J5) 0 (k:Int)).bind fun v34=>(app ([]:(List eU)) v34).bind fun v35=>(app v35 [(⟨x.Person,x.Space⟩:eU)]).bind fun v36=>(OC (A.pp.map J5) (k:Int) (List.length (A.pp.map J5):Int)).bind fun v37=>(app v36 v37).bind fun v38=>some (({ toR p A with oV:=v38 }:af),(⟨0,[]⟩:bg)))=_
              have s0:OC (A.pp.map J5) 0 (k:Int)=some ((A.pp.map J5).take k):=NK (a:=0) (Nat.zero_le _) (by rw [List.length_map];omega)
              have s1:OC (A.pp.map J5) (k:Int) (List.length (A.pp.map J5):Int)=some ((A.pp.map J5).drop k):=by
                rw [NK (by rw [List.length_map];omega) (Nat.le_refl _),List.take_length]
              rw [s0,bS,A7 (by simp;omega),bS,A7 (by simp;omega),bS,s1,bS,A7 (by simp;omega),bS]
              show _=some (toR p { A with pp:=Ku A.pp x.Person x.Space },(⟨0,[]⟩:bg))
              rw [hins]
              congr 2
              show (⟨p,A.now,_,_,_,_,_⟩:af)=⟨p,A.now,_,_,_,_,_⟩
              congr 1
              rw [List.map_append,List.map_cons,List.map_take,List.map_drop,List.nil_append,List.append_assoc];rfl
          · simp only [List.length_nil] at hacc
            unfold mM
            simp only []
            show (bif (aG .lss (j:Int) (List.length (uy p (stA A)):Int)) then ((idx p.ak (j:Int)).bind fun v21=>(idx (uy p (stA A)) (j:Int)).bind fun v22=>(bif ((aG .eql v22 2)&&(aG .eql v21.Kind 3)) then (nI N p v21.Space x.Space) else some 0).bind fun v23=>bif (((aG .eql v22 2)&&(aG .eql v21.Kind 3))&&(aG .leq v23 1)) then ((app acc [v21.Name]).bind fun v24=>some (Sum.inl (v24,(IntKind.i64.wrap ((j:Int)+1))))) else (some (Sum.inl (acc,(IntKind.i64.wrap ((j:Int)+1)))))) else (some (Sum.inr acc)))=_
            have hx:=rC hj
            rw [uz,bU,dT (by omega),lW,zK hj,bS,BK hj,bS,CS hp (ho.pk _ hx).2.2.2.2 hh hN,qX (by omega),← DC hj]
            simp only [jS,wM]
            cases decide (stA A p.ak[j]!.Name=2) with
            | false=>rfl
            | true =>
              cases decide (p.ak[j]!.Kind=3) with
              | false=>rfl
              | true =>
                simp only [Bool.true_and,lW,bS]
                cases decide (lI p p.ak[j]!.Space x.Space≤1) with
                | false=>rfl
                | true=>simp only [lW];rw [A7 (by simp only [List.length_singleton];omega)];rfl
          · unfold mM
            simp only []
            show (bif (aG .lss (p.ak.length:Int) (List.length (uy p (stA A)):Int)) then _ else _)=_
            rw [uz,bU,dF (by omega),mD]
end
end Go.KB
namespace Go.KB
set_option linter.unusedVariables false
section
variable {N:Nat} {p:GPermitPlan} {A:AO} (hp:FW p) (ho:EQ p) (hN:1000000≤N) (b:IL A)
include hp hN in
theorem WV {y:aH} {R:bg}:dX (oh N (toR p A) ((⟨(⟨[],[],[],0⟩:GPermitPlan),0,[],[],[],[],[]⟩:af),R,uy p (stA A),uy p (fun n=>(A.es n).AU),uy p (fun n=>(A.es n).zF),OZ p (fun s=>Ll (A.ts s))) y) N ([],0)=some (nH p A (fun z=>FI z.Locks y.Name)):=by
 have hm:=hp.m
 have hlim:lim ≥ 10000000:=by decide
 rw [CQ (f:=oh N (toR p A) ((⟨(⟨[],[],[],0⟩:GPermitPlan),0,[],[],[],[],[]⟩:af),R,uy p (stA A),uy p (fun n=>(A.es n).AU),uy p (fun n=>(A.es n).zF),OZ p (fun s=>Ll (A.ts s))) y) p.ak [] (fun z=>decide (stA A z.Name=2)&&FI z.Locks y.Name) (fun z=>z.Name) (fun a i=>(a,i)) (fun a=>a) (fun j hj acc hacc=>?_) (fun acc=>?_) (by omega)]
 ·rfl
 ·simp only [List.length_nil] at hacc
  have hl:=hp.l _ (rC hj)
  unfold oh
  simp only []
  rw [uz,bU,dT (by omega),lW,qX (by omega),← DC hj]
  have inner:dX (mX N (toR p A) ((⟨(⟨[],[],[],0⟩:GPermitPlan),0,[],[],[],[],[]⟩:af),R,uy p (stA A),uy p (fun n=>(A.es n).AU),uy p (fun n=>(A.es n).zF),OZ p (fun s=>Ll (A.ts s))) y (acc,(j:Int))) N (acc,0)=some (bif decide (stA A p.ak[j]!.Name=2)&&FI p.ak[j]!.Locks y.Name then acc ++ [p.ak[j]!.Name] else acc):=by
   have key:∀ k i,i+k=p.ak[j]!.Locks.length→∀ M,k<M→dX (mX N (toR p A) ((⟨(⟨[],[],[],0⟩:GPermitPlan),0,[],[],[],[],[]⟩:af),R,uy p (stA A),uy p (fun n=>(A.es n).AU),uy p (fun n=>(A.es n).zF),OZ p (fun s=>Ll (A.ts s))) y (acc,(j:Int))) M (acc,(i:Int))=some (bif decide (stA A p.ak[j]!.Name=2)&&FI (p.ak[j]!.Locks.drop i) y.Name then acc ++ [p.ak[j]!.Name] else acc):=by
    intro k
    induction k with
    | zero =>
     intro i hi M hM
     obtain ⟨M,rfl⟩:∃ m,M=m+1:=⟨M - 1,by omega⟩
     have e:mX N (toR p A) ((⟨(⟨[],[],[],0⟩:GPermitPlan),0,[],[],[],[],[]⟩:af),R,uy p (stA A),uy p (fun n=>(A.es n).AU),uy p (fun n=>(A.es n).zF),OZ p (fun s=>Ll (A.ts s))) y (acc,(j:Int)) (acc,(i:Int))=some (.inr acc):=by
      unfold mX
      show ((idx p.ak (j:Int)).bind fun v43=>_)=_
      rw [zK hj,bS]
      simp only []
      rw [bU,dF (by omega),mD]
     simp only [dX,e]
     rw [List.drop_eq_nil_of_le (by omega),show FI [] y.Name=false from rfl,Bool.and_false];rfl
    | succ k ih =>
     intro i hi M hM
     obtain ⟨M,rfl⟩:∃ m,M=m+1:=⟨M - 1,by omega⟩
     have hil:i<p.ak[j]!.Locks.length:=by omega
     have e:mX N (toR p A) ((⟨(⟨[],[],[],0⟩:GPermitPlan),0,[],[],[],[],[]⟩:af),R,uy p (stA A),uy p (fun n=>(A.es n).AU),uy p (fun n=>(A.es n).zF),OZ p (fun s=>Ll (A.ts s))) y (acc,(j:Int)) (acc,(i:Int))=bif decide (stA A p.ak[j]!.Name=2)&&decide (p.ak[j]!.Locks[i]=y.Name) then some (.inr (acc ++ [p.ak[j]!.Name])) else some (.inl (acc,((i+1:Nat):Int))):=by
      unfold mX
      show ((idx p.ak (j:Int)).bind fun v43=>bif (aG .lss (i:Int) (List.length v43.Locks:Int)) then ((idx (uy p (stA A)) (j:Int)).bind fun v44=>(bif (aG .eql v44 2) then (idx p.ak (j:Int)) else some (⟨[],0,[],0,0,[]⟩:aH)).bind fun v45=>(bif (aG .eql v44 2) then (idx v45.Locks (i:Int)) else some []).bind fun v46=>bif ((aG .eql v44 2)&&(Ag .eql v46 y.Name)) then ((idx p.ak (j:Int)).bind fun v47=>(app acc [v47.Name]).bind fun v48=>some (Sum.inr v48)) else (some (Sum.inl (acc,(IntKind.i64.wrap ((i:Int)+1)))))) else (some (Sum.inr acc)))=_
      rw [zK hj,bS,bU,dT (by omega),lW,BK hj,bS,jS,qX (by omega)]
      simp only [ru]
      cases decide (stA A p.ak[j]!.Name=2) with
      | false=>rfl
      | true =>
       simp only [lW,bS,Bool.true_and]
       rw [jK hil,bS]
       cases decide (p.ak[j]!.Locks[i]=y.Name) with
       | false=>rfl
       | true=>simp only [lW];rw [A7 (by simp only [List.length_singleton];omega)];rfl
     simp only [dX,e]
     have hd:FI (p.ak[j]!.Locks.drop i) y.Name=(decide (p.ak[j]!.Locks[i]=y.Name)||FI (p.ak[j]!.Locks.drop (i+1)) y.Name):=by
      rw [List.drop_eq_getElem_cons hil]
      unfold FI
      rw [List.any_cons,show decide (y.Name=p.ak[j]!.Locks[i])=decide (p.ak[j]!.Locks[i]=y.Name) from decide_eq_decide.2 ⟨Eq.symm,Eq.symm⟩]
     rw [hd]
     cases h2:decide (stA A p.ak[j]!.Name=2) with
     | false =>
      have:=ih (i+1) (by omega) M (by omega)
      rw [h2] at this
      simpa using this
     | true =>
      cases hn:decide (p.ak[j]!.Locks[i]=y.Name) with
      | true=>rfl
      | false =>
       have:=ih (i+1) (by omega) M (by omega)
       rw [h2] at this
       simpa using this
   have:=key _ 0 (Nat.zero_add _) N (by omega)
   rw [List.drop_zero] at this
   exact this
  rw [inner,bS]
 ·unfold oh
  simp only []
  rw [uz,bU,dF (by omega),mD]
include hp ho hN b in
theorem jJl (ps:Tv p A) (hpp:A.pp.Pairwise (fun a b=>a.1<b.1)) {x:GEvent} (h0:0≤x.Op) (h12:x.Op<12):vN N (toR p A) x=some (toR p (yh p A x).1,⟨(yh p A x).2.2,(yh p A x).2.1⟩):=by
  have hm:=hp.m
  have hs:=hp.s
  unfold vN
  rw [JE hp b,bS]
  cases hst:yD x.Op with
  | none =>
    have h4:x.Op=0∨x.Op=7∨x.Op=8∨x.Op=9∨x.Op=10:=by
      rcases Hl h0 h12 with e | e | e | e | e | e | e | e | e | e | e | e <;> first | omega | (rw [e] at hst;cases hst)
    by_cases e0:x.Op=0
    · have hR:yh p A x=CV A:=by
        unfold yh;rw [hst];unfold xN;rw [if_pos e0]
      rw [hR,jS,dT e0];rfl
    · have hin:jc N (toR p A) x=some (toR p (yh p A x).1,⟨(yh p A x).2.2,(yh p A x).2.1⟩):=by
        rcases h4 with e | e | e | e | e
        · exact absurd e e0
        · exact RS hp ho hN (.inl e)
        · exact Yv hp ho hN b hpp e
        · exact Yu hN b hpp e
        · exact RS hp ho hN (.inr e)
      have hc:((bif (aG .eql x.Op 7) then (some (aG .eql x.Op 7)) else (bif (aG .eql x.Op 8) then (some (aG .eql x.Op 8)) else (bif (aG .eql x.Op 9) then (some (aG .eql x.Op 9)) else (some (aG .eql x.Op 10))))):Option Bool)=some true:=by
        simp only [jS]
        rcases h4 with e | e | e | e | e
        · exact absurd e e0
        all_goals rw [e];rfl
      rw [hc,bS,lW,hin,jS,dF e0];rfl
  | some l =>
    have h7:x.Op=1∨x.Op=2∨x.Op=3∨x.Op=4∨x.Op=5∨x.Op=6∨x.Op=11:=by
      rcases Hl h0 h12 with e | e | e | e | e | e | e | e | e | e | e | e <;> first | omega | (rw [e] at hst;cases hst)
    have hc:((bif (aG .eql x.Op 7) then (some (aG .eql x.Op 7)) else (bif (aG .eql x.Op 8) then (some (aG .eql x.Op 8)) else (bif (aG .eql x.Op 9) then (some (aG .eql x.Op 9)) else (some (aG .eql x.Op 10))))):Option Bool)=some false:=by
      simp only [jS]
      rw [dF (by omega),dF (by omega),dF (by omega),dF (by omega)];rfl
    rw [hc,bS,mD,jS,dF (by omega),mD,bS]
    simp only [Sum.elim_inl]
    show ((qc N p x.Name).bind fun v19=>_)=_
    rw [Fv (by omega) hN,bS,bU,Tz]
    show (bif !l9 p x.Name then _ else _)=_
    have hR:yh p A x=bif !l9 p x.Name then xO A 6 [] else bif !l.contains (stA A x.Name) then xO A 18 [] else xN p A x:=by unfold yh;rw [hst]
    rw [hR]
    cases hh:l9 p x.Name with
    | false=>rfl
    | true =>
      obtain ⟨i,hi,e1,e2⟩:=ixP hh
      have hx:=rC hi
      have hn:p.ak[i]!.Name=x.Name:=by rw [e2];exact (AA hh).2
      have hsp:uY p p.ak[i]!.Space=true:=(ho.pk _ hx).2.2.2.2
      simp only [Bool.not_true,mD]
      rw [e1]
      show ((idx (uy p (stA A)) (i:Int)).bind fun v21=>_)=_
      rw [BK hi,bS,hn,WT h0 h12 hst,bS]
      cases l.contains (stA A x.Name) with
      | false=>rfl
      | true =>
        simp only [Bool.not_true,mD]
        have hP:idx (toR p A).P.ak (i:Int)=some p.ak[i]!:=zK hi
        have hS:idx (toR p A).cO (i:Int)=some (stA A x.Name):=by rw [← hn];exact BK hi
        have hB:idx (toR p A).By (i:Int)=some (A.es x.Name).AU:=by rw [← hn];exact BK (F:=fun n=>(A.es n).AU) hi
        have hT:idx (toR p A).To (i:Int)=some (A.es x.Name).zF:=by rw [← hn];exact BK (F:=fun n=>(A.es n).zF) hi
        have kS:(uy p (stA A)).set i (stA A x.Name)=uy p (stA A):=by rw [← hn];exact JF ho hi
        have kB:(uy p fun n=>(A.es n).AU).set i (A.es x.Name).AU=uy p fun n=>(A.es n).AU:=by rw [← hn];exact JF (F:=fun n=>(A.es n).AU) ho hi
        have kT:(uy p fun n=>(A.es n).zF).set i (A.es x.Name).zF=uy p fun n=>(A.es n).zF:=by rw [← hn];exact JF (F:=fun n=>(A.es n).zF) ho hi
        have hup:∀ e:ah,toR p (WS A x.Name e)={ toR p A with cO:=(uy p (stA A)).set i e.state,By:=(uy p fun n=>(A.es n).AU).set i e.AU,To:=(uy p fun n=>(A.es n).zF).set i e.zF }:=fun e=>by rw [← hn];exact jJd ho hi
        have hbe:∀ k,toR p (QS A x.Name k)={ toR p A with cO:=(uy p (stA A)).set i k }:=fun k=>by rw [← hn];exact toR_be ho hi
        have jJm:x.Op=2∨x.Op=4→((idx (toR p A).By (i:Int)).bind fun v32=>bif (Ag .eql x.Person v32) then ((mG N 26).bind fun v33=>some (toR p A,v33)) else ((mW N (toR p A) (i:Int)).bind fun v34=>bif (aG .gtr (List.length v34:Int) 0) then ((idx v34 0).bind fun v35=>(idx v34 0).bind fun v36=>some (toR p A,(⟨v35.Err,v36.Names⟩:bg))) else ((idx (toR p A).cO (i:Int)).bind fun v37=>some (({ toR p A with cO:=(List.set (toR p A).cO (Int.toNat (i:Int)) 2) }:af),(⟨0,[]⟩:bg)))))=some (toR p (bif decide (x.Person=(A.es x.Name).AU) then xO A 26 [] else match Eh p A (tK p x.Name) with | r :: _=>xO A r.Err r.Names | []=>CV (QS A x.Name 2)).1,⟨(bif decide (x.Person=(A.es x.Name).AU) then xO A 26 [] else match Eh p A (tK p x.Name) with | r :: _=>xO A r.Err r.Names | []=>CV (QS A x.Name 2)).2.2,(bif decide (x.Person=(A.es x.Name).AU) then xO A 26 [] else match Eh p A (tK p x.Name) with | r :: _=>xO A r.Err r.Names | []=>CV (QS A x.Name 2)).2.1⟩):=fun _=>by
          rw [hB,bS,ru,Oe hp ho hN b ps hi,bS,e2,hS,bS,Int.toNat_natCast]
          cases decide (x.Person=(A.es x.Name).AU) with
          | true=>rfl
          | false =>
            rw [mD,mD]
            cases Eh p A (tK p x.Name) with
            | nil =>
              show some (({ toR p A with cO:=(uy p (stA A)).set i 2 }:af),(⟨0,[]⟩:bg))=some (toR p (QS A x.Name 2),⟨0,[]⟩)
              rw [hbe]
            | cons r l =>
              rw [gt0];rfl
        rcases h7 with e | e | e | e | e | e | e
        · have hD : xN p A x = D6 A x := by unfold xN; rw [if_neg (by omega), if_pos e]
          rw [hD]
          unfold D6
          simp only [e,jS,Int.reduceEq,decide_true,decide_false,lW,mD,Bool.true_or,Bool.true_and,bS,hP,hS,hB,Int.toNat_natCast]
          rw [BR (by omega),bS]
          cases mZ x.Person with
          | false=>rfl
          | true =>
            have:=hup { A.es x.Name with state:=1,AU:=x.Person }
            simp only [kT] at this
            show some _=some (toR p (WS A x.Name _),_)
            rw [this];rfl
        · have hD : xN p A x = Bl p A x := by unfold xN; rw [if_neg (by omega), if_neg (by omega), if_pos e]
          rw [hD]
          unfold Bl
          simp only [e,jS,Int.reduceEq,decide_true,decide_false,lW,mD,Bool.true_or,Bool.or_true,Bool.true_and,bS,hP]
          rw [BR (by omega),bS]
          cases mZ x.Person with
          | false=>rfl
          | true=>exact jJm (.inl e)
        · have hD : xN p A x = CV (QS A x.Name 3) := by unfold xN; rw [if_neg (by omega), if_neg (by omega), if_neg (by omega), if_pos e]
          rw [hD]
          simp only [e,jS,Int.reduceEq,decide_true,decide_false,lW,mD,Bool.or_self,Bool.false_and,bS,hP,hS,Int.toNat_natCast]
          show some _=some (toR p (QS A x.Name 3),_)
          rw [hbe];rfl
        · have hD : xN p A x = Bl p A x := by unfold xN; rw [if_neg (by omega), if_neg (by omega), if_neg (by omega), if_neg (by omega), if_pos e]
          rw [hD]
          unfold Bl
          simp only [e,jS,Int.reduceEq,decide_true,decide_false,lW,mD,Bool.true_or,Bool.or_true,Bool.true_and,bS,hP]
          rw [BR (by omega),bS]
          cases mZ x.Person with
          | false=>rfl
          | true=>exact jJm (.inr e)
        · have hD : xN p A x = CW p A x := by unfold xN; rw [if_neg (by omega), if_neg (by omega), if_neg (by omega), if_neg (by omega), if_neg (by omega), if_pos e]
          have hF:CW p A x=(bif decide (p.ak[i]!.Kind=5) && !(nH p A (fun z=>FI z.Locks p.ak[i]!.Name)).isEmpty then xO A 20 (nH p A (fun z=>FI z.Locks p.ak[i]!.Name)) else
              bif decide (p.ak[i]!.Kind=1)&&decide (stA A x.Name=2)&&(yN p p.ak[i]!.Space).dD&&(nH p A (fun z=>decide (z.Kind=1)&&decide (z.Space=p.ak[i]!.Space) && !decide (z.Name=p.ak[i]!.Name))).isEmpty && !(vG A (fun s=>decide (s=p.ak[i]!.Space))).isEmpty then xO A 21 (vG A (fun s=>decide (s=p.ak[i]!.Space))) else
              CV (QS A x.Name 4)):=by
            unfold CW;simp only [];rw [← e2,hn]
          rw [hD,hF]
          simp only [e,jS,Int.reduceEq,decide_true,decide_false,lW,mD,Bool.or_self,Bool.false_and,bS,hP,hS,Int.toNat_natCast]
          have hH:=WV (A:=A) (N:=N) hp hN (y:=p.ak[i]!) (R:=⟨0,[]⟩)
          have hPe:kQ N (toR p A) p.ak[i]!.Space 0=some (vG A (fun s=>decide (s=p.ak[i]!.Space))):=by
            rw [Le hp hN b ps hsp];simp only [near0]
          obtain ⟨s,hs1,f1,f2⟩:=ixS hsp
          have hSp:jh N p p.ak[i]!.Space=some (s:Int):=by rw [wF (by omega) hN,f1]
          have hSi:idx p.bM (s:Int)=some (yN p p.ak[i]!.Space):=by rw [zK hs1,f2]
          have hEn:=Yt (A:=A) hp ho hN hi (s:=p.ak[i]!.Space)
          show ((dX (oh N (toR p A) ((⟨(⟨[],[],[],0⟩:GPermitPlan),0,[],[],[],[],[]⟩:af),(⟨0,[]⟩:bg),uy p (stA A),uy p (fun n=>(A.es n).AU),uy p (fun n=>(A.es n).zF),OZ p (fun s=>Ll (A.ts s))) p.ak[i]!) N ([],0)).bind fun o55=>_)=_
          rw [hH,bS]
          show (bif (decide (p.ak[i]!.Kind=5)&&aG .gtr ((nH p A (fun z=>FI z.Locks p.ak[i]!.Name)).length:Int) 0) then some (toR p A,(⟨20,nH p A (fun z=>FI z.Locks p.ak[i]!.Name)⟩:bg)) else ((kQ N (toR p A) p.ak[i]!.Space 0).bind fun v57=>((bif decide (p.ak[i]!.Kind=1) then some (stA A x.Name) else some 0):Option Int).bind fun v58=>(bif (decide (p.ak[i]!.Kind=1)&&decide (v58=2)) then jh N p p.ak[i]!.Space else some 0).bind fun v59=>(bif (decide (p.ak[i]!.Kind=1)&&decide (v58=2)) then idx p.bM v59 else some (⟨[],false,[]⟩:dH)).bind fun v60=>(bif ((decide (p.ak[i]!.Kind=1)&&decide (v58=2))&&v60.dD) then iP N (toR p A) p.ak[i]!.Space (i:Int) else some false).bind fun v61=>bif (((((decide (p.ak[i]!.Kind=1)&&decide (v58=2))&&v60.dD) && !v61)&&aG .gtr (v57.length:Int) 0)) then some (toR p A,(⟨21,v57⟩:bg)) else some (({ toR p A with cO:=(uy p (stA A)).set i 4 }:af),(⟨0,[]⟩:bg))))=_
          rw [gt0,hPe]
          simp only [bS,gt0,hEn]
          have hfin:some (({ toR p A with cO:=(uy p (stA A)).set i 4 }:af),(⟨0,[]⟩:bg))=some (toR p (CV (QS A x.Name 4)).1,⟨(CV (QS A x.Name 4)).2.2,(CV (QS A x.Name 4)).2.1⟩):=by
            show _=some (toR p (QS A x.Name 4),_)
            rw [hbe];rfl
          rw [hfin]
          generalize (nH p A (fun z=>FI z.Locks p.ak[i]!.Name))=hl
          generalize (nH p A (fun z=>decide (z.Kind=1)&&decide (z.Space=p.ak[i]!.Space) && !decide (z.Name=p.ak[i]!.Name))).isEmpty=b1
          generalize vG A (fun s=>decide (s=p.ak[i]!.Space))=pl
          cases (decide (p.ak[i]!.Kind=5) && !hl.isEmpty) with
          | true=>rfl
          | false =>
            rw [mD,mD]
            cases decide (p.ak[i]!.Kind=1) with
            | false=>rfl
            | true =>
              simp only [lW,bS,Bool.true_and]
              cases decide (stA A x.Name=2) with
              | false=>rfl
              | true =>
                simp only [lW,Bool.true_and]
                rw [hSp,bS,hSi,bS]
                cases (yN p p.ak[i]!.Space).dD with
                | false=>rfl
                | true =>
                  simp only [lW,bS,Bool.true_and,Bool.not_not]
                  cases b1 with
                  | false=>rfl
                  | true=>cases pl.isEmpty <;> rfl
        · have hD : xN p A x = CV (QS A x.Name 5) := by unfold xN; rw [if_neg (by omega), if_neg (by omega), if_neg (by omega), if_neg (by omega), if_neg (by omega), if_neg (by omega), if_pos e]
          rw [hD]
          simp only [e,jS,Int.reduceEq,decide_true,decide_false,lW,mD,Bool.or_self,Bool.false_and,bS,hP,hS,Int.toNat_natCast]
          show some _=some (toR p (QS A x.Name 5),_)
          rw [hbe];rfl
        · have hD:xN p A x=Gj A x:=by
            unfold xN;rw [if_neg (by omega),if_neg (by omega),if_neg (by omega),if_neg (by omega),if_neg (by omega),if_neg (by omega),if_neg (by omega),if_neg (by omega),if_neg (by omega),if_neg (by omega),if_neg (by omega)]
          rw [hD]
          unfold Gj
          simp only [e,jS,Int.reduceEq,decide_true,decide_false,lW,mD,Bool.or_true,Bool.true_and,bS,hP,hT,Int.toNat_natCast,wM,uP]
          rw [BR (by omega),bS]
          cases mZ x.Person with
          | false=>rfl
          | true =>
            simp only [Bool.not_true,mD]
            cases (decide (x.To≤(A.es x.Name).zF)||decide (1000000<x.To)) with
            | true=>rfl
            | false =>
              have:=hup { A.es x.Name with zF:=x.To }
              simp only [kB] at this
              show some _=some (toR p (WS A x.Name _),_)
              rw [this]
              show some _=some (({ toR p A with cO:=(uy p (stA A)).set i (stA A x.Name),By:=_,To:=_ }:af),_)
              rw [kS];rfl
end
end Go.KB
namespace Go.KB
set_option linter.unusedVariables false
def NmA (r:AO×List Str×Int):Prop:=(r.2.2=0→r.2.1=[])∧r.2.1.length<1000000
theorem zq {c:Bool} {a b:AO×List Str×Int} (ha:NmA a) (hb:NmA b):NmA (bif c then a else b):=by cases c <;> assumption
theorem FC {A:AO}:NmA (CV A):=⟨fun _=>rfl,by show 0<1000000;decide⟩
theorem QA {A:AO} {e:Int} {l:List Str} (he:e≠0) (hl:l.length<1000000):NmA (xO A e l):=⟨fun h=>absurd h he,hl⟩
theorem AL {A:AO} {e:Int} (he:e≠0):NmA (xO A e []):=QA he (by decide)
theorem wZ {p:GPermitPlan} {c:Bool} {a b:AO×List Str×Int} (ha:Tv p a.1) (hb:Tv p b.1):Tv p (bif c then a else b).1:=by cases c <;> assumption
section
variable {p:GPermitPlan} {A:AO} (hp:FW p) (b:IL A)
include hp b in
theorem XJ {y:aH} (hy:y.Locks.length<1000):∀ r ∈ Eh p A y,r.Names.length<1000000:=by
 have hm:=hp.m
 have hpl:=b.pl
 have h1:(Fp A y).length<1000000:=Nat.lt_of_le_of_lt (List.length_filter_le _ _) (by omega)
 have h2:(nH p A (fun z=>yA p z y)).length<1000000:=Nat.lt_of_le_of_lt Qo (by omega)
 have h3:(BA p A y).length<1000000:=Nat.lt_of_le_of_lt (List.length_filter_le _ _) (by have:=Qw (x:=y) hp;omega)
 have h4:(vG A (fun s=>decide (lI p s y.Space≤1))).length<1000000:=Nat.lt_of_le_of_lt Ql hpl
 intro r hr
 unfold Eh at hr
 rcases List.mem_append.1 hr with hr | hr
 ·cases hd:decide (A.now<y.From) with
  | false=>rw [hd] at hr;cases hr
  | true=>rw [hd,lW,List.mem_singleton] at hr;subst hr;decide
 ·have hr:=(List.mem_filter.1 hr).1
  rcases List.mem_append.1 hr with hr | hr
  ·simp only [List.mem_cons,List.not_mem_nil,or_false] at hr
   rcases hr with rfl | rfl | rfl
   ·exact h1
   ·exact h2
   ·exact h3
  ·cases hd:decide (y.Kind=3) with
   | false=>rw [hd] at hr;cases hr
   | true=>rw [hd,lW,List.mem_singleton] at hr;subst hr;exact h4
include hp b in
theorem act_nm {x:GEvent}:NmA (yh p A x):=by
 have hm:=hp.m
 have hpl:=b.pl
 have hop:∀ so,(nH p A so).length<1000000:=fun so=>Nat.lt_of_le_of_lt Qo (by omega)
 have hpe:∀ so,(vG A so).length<1000000:=fun so=>Nat.lt_of_le_of_lt Ql hpl
 have hbeg:l9 p x.Name=true→NmA (Bl p A x):=fun hh=>by
  unfold Bl
  refine zq (AL (by decide)) (zq (AL (by decide)) ?_)
  have h1:=TK (p:=p) (A:=A) (x:=tK p x.Name)
  have h2:=XJ hp b (y:=tK p x.Name) (hp.l _ (AA hh).1)
  cases hw:Eh p A (tK p x.Name) with
  | nil=>exact FC
  | cons r l=>rw [hw] at h1 h2;exact QA (h1 r List.mem_cons_self) (h2 r List.mem_cons_self)
 have Oj:(yD x.Op≠none→l9 p x.Name=true)→NmA (xN p A x):=fun hh=>by
  unfold xN
  by_cases e0:x.Op=0
  ·rw [if_pos e0];exact FC
  rw [if_neg e0]
  by_cases e1:x.Op=1
  ·rw [if_pos e1];unfold D6;exact zq (AL (by decide)) FC
  rw [if_neg e1]
  by_cases e2:x.Op=2
  ·rw [if_pos e2];exact hbeg (hh (by rw [e2];decide))
  rw [if_neg e2]
  by_cases e3:x.Op=3
  ·rw [if_pos e3];exact FC
  rw [if_neg e3]
  by_cases e4:x.Op=4
  ·rw [if_pos e4];exact hbeg (hh (by rw [e4];decide))
  rw [if_neg e4]
  by_cases e5:x.Op=5
  ·rw [if_pos e5];unfold CW;exact zq (QA (by decide) (hop _)) (zq (QA (by decide) (hpe _)) FC)
  rw [if_neg e5]
  by_cases e6:x.Op=6
  ·rw [if_pos e6];exact FC
  rw [if_neg e6]
  by_cases e7:x.Op=7
  ·rw [if_pos e7];unfold Vb;exact zq (AL (by decide)) (zq (AL (by decide)) FC)
  rw [if_neg e7]
  by_cases e8:x.Op=8
  ·rw [if_pos e8];unfold JI;exact zq (AL (by decide)) (zq (AL (by decide)) (zq (AL (by decide)) (zq (AL (by decide)) (zq (QA (by decide) (hop _)) FC))))
  rw [if_neg e8]
  by_cases e9:x.Op=9
  ·rw [if_pos e9];unfold JH;exact zq (AL (by decide)) (zq (AL (by decide)) FC)
  rw [if_neg e9]
  by_cases e10:x.Op=10
  ·rw [if_pos e10];unfold JG;exact zq (AL (by decide)) FC
  rw [if_neg e10]
  unfold Gj;exact zq (AL (by decide)) (zq (AL (by decide)) FC)
 unfold yh
 cases hst:yD x.Op with
 | none=>exact Oj fun h=>absurd hst h
 | some l =>
  cases hh:l9 p x.Name with
  | false=>exact AL (by decide)
  | true=>exact zq (AL (by decide)) (zq (AL (by decide)) (Oj fun _=>hh))
theorem act_ps {p:GPermitPlan} {A:AO} {x:GEvent} (h:Tv p A):Tv p (yh p A x).1:=by
 have hbeg:Tv p (Bl p A x).1:=by
  unfold Bl
  refine wZ h (wZ h ?_)
  cases Eh p A (tK p x.Name) <;> exact h
 have Oj:Tv p (xN p A x).1:=by
  unfold xN
  by_cases e0:x.Op=0
  ·rw [if_pos e0];exact h
  rw [if_neg e0]
  by_cases e1:x.Op=1
  ·rw [if_pos e1];unfold D6;exact wZ h h
  rw [if_neg e1]
  by_cases e2:x.Op=2
  ·rw [if_pos e2];exact hbeg
  rw [if_neg e2]
  by_cases e3:x.Op=3
  ·rw [if_pos e3];exact h
  rw [if_neg e3]
  by_cases e4:x.Op=4
  ·rw [if_pos e4];exact hbeg
  rw [if_neg e4]
  by_cases e5:x.Op=5
  ·rw [if_pos e5];unfold CW;exact wZ h (wZ h h)
  rw [if_neg e5]
  by_cases e6:x.Op=6
  ·rw [if_pos e6];exact h
  rw [if_neg e6]
  by_cases e7:x.Op=7
  ·rw [if_pos e7];unfold Vb;exact wZ h (wZ h h)
  rw [if_neg e7]
  by_cases e8:x.Op=8
  ·rw [if_pos e8];unfold JI
   refine wZ h ?_
   cases hh:uY p x.Space with
   | false=>exact h
   | true =>
    refine wZ h (wZ h (wZ h (wZ h ?_)))
    intro q hq
    rcases TL hq with rfl | hq
    ·exact hh
    ·exact h q hq
  rw [if_neg e8]
  by_cases e9:x.Op=9
  ·rw [if_pos e9];unfold JH
   refine wZ h (wZ h ?_)
   intro q hq
   exact h q (List.mem_filter.1 hq).1
  rw [if_neg e9]
  by_cases e10:x.Op=10
  ·rw [if_pos e10];unfold JG;exact wZ h h
  rw [if_neg e10]
  unfold Gj;exact wZ h (wZ h h)
 unfold yh
 cases yD x.Op with
 | none=>exact Oj
 | some l=>exact wZ h (wZ h Oj)
theorem do_ps {p:GPermitPlan} {A:AO} {x:GEvent} (h:Tv p A):Tv p (OX p A x).1:=by
 have h1:Tv p (yh p (iy p { A with now:=x.At }) x).1:=act_ps h
 unfold OX
 refine wZ h (wZ h ?_)
 exact wZ h1 h1
end
theorem rDo_eq {N:Nat} {p:GPermitPlan} {A:AO} (hp:FW p) (ho:EQ p) (hN:1000000≤N) (h:Vf p A) (ps:Tv p A) (hd:A.done.length<100000) (x:GEvent) :
    xB N (toR p A) x=some (toR p (OX p A x).1,⟨(OX p A x).2.2,(OX p A x).2.1⟩)∧(OX p A x).2.1.length<1000000:=by
  unfold xB OX
  simp only [bU,uP]
  rw [show decide (11<x.Op)=decide (12≤x.Op) from decide_eq_decide.2 ⟨fun h=>by omega,fun h=>by omega⟩]
  by_cases hr:x.Op<0∨12≤x.Op∨x.At<0∨1000000<x.At
  · have hr' : (decide (x.Op < 0) || decide (12 ≤ x.Op) || decide (x.At < 0) || decide (1000000 < x.At)) = true := by simpa [or_assoc] using hr
    rw [hr'];exact ⟨rfl,by show 0<1000000;decide⟩
  · have hr' : (decide (x.Op < 0) || decide (12 ≤ x.Op) || decide (x.At < 0) || decide (1000000 < x.At)) = false := by simp; omega
    rw [hr',mD,mD]
    show (bif decide (x.At<A.now) then _ else _)=_∧_
    by_cases hw0:x.At<A.now
    · rw [dT hw0];exact ⟨rfl,by show 0<1000000;decide⟩
    · rw [dF hw0,mD,mD]
      have hw:WA p A.done { A with now:=x.At }:=h.w.le (fun s=>.inl rfl) (fun _=>rfl) ⟨by show A.now≤x.At;omega,by show x.At≤1000000;omega⟩ h.w.pp (fun s t e=>.inl e) h.w.pl
      have hi:=FD ho hw
      have bA:IL A:=h.w.bd (by omega)
      have bN:IL { A with now:=x.At }:=hw.bd (by omega)
      have bSt:IL (iy p { A with now:=x.At }):=bN.settle
      have wS:WA p A.done (iy p { A with now:=x.At }):=hw.settle
      obtain ⟨s1,s2,s3,s4,_⟩:=ML ho (A:=iy p { A with now:=x.At }) (x:=x) (by omega) (by omega)
      have hnm:=act_nm hp bSt (x:=x)
      have hdn:=jJl hp ho hN bSt (fun q hq=>ps q hq) wS.pp (x:=x) (by omega) (by omega)
      rw [JE hp bA,bS]
      show ((qw N (toR p { A with now:=x.At })).bind fun v4=>_)=_∧_
      rw [Qy hp ho hN bN,bS,hdn,bS]
      generalize hR:yh p (iy p { A with now:=x.At }) x=R at s1 s2 s3 s4 hnm hdn
      simp only [wu]
      by_cases h0:R.2.2=0
      · have bR : IL R.1 := (s2 _ wS).bd (by simp only [List.length_append, List.length_singleton]; omega)
        rw [dT h0]
        simp only [Bool.not_true,mD,lW]
        rw [Qy hp ho hN bR,bS,hnm.1 h0,h0]
        exact ⟨rfl,by decide⟩
      · rw [dF h0]
        simp only [Bool.not_false,lW,mD]
        rw [s1 h0]
        exact ⟨rfl,hnm.2⟩
theorem WW {p:GPermitPlan} (ho:EQ p) {x:aH} (hx:x ∈ p.ak):(Qk p).es x.Name=⟨0,[],x.To⟩:=by
 have hh:l9 p x.Name=true:=zL.2 ⟨x,hx,rfl⟩
 have h2:=ho.pk x hx
 have e0:(NP p).es x.Name=⟨0,[],x.To⟩:=by
  show (bif l9 p x.Name then (⟨0,[],(tK p x.Name).To⟩:ah) else ⟨0,[],0⟩)=_
  rw [hh,ho.Fq hx];rfl
 have e1:(BX p (NP p)).es x.Name=⟨0,[],x.To⟩:=by
  show (bif l9 p x.Name then BZ 0 ((NP p).es x.Name) else (NP p).es x.Name)=_
  rw [hh,e0]
  unfold BZ
  rw [show decide ((⟨0,[],x.To⟩:ah).zF≤0)=false from dF (by show ¬ x.To≤0;omega),Bool.and_false];rfl
 show (bif l9 p x.Name&&decide (stA (BX p (NP p)) x.Name=2)&&yP p (BX p (NP p)) (tK p x.Name) then ({ (BX p (NP p)).es x.Name with state:=3 }:ah) else (BX p (NP p)).es x.Name)=_
 rw [show decide (stA (BX p (NP p)) x.Name=2)=false from by unfold stA;rw [e1];rfl,Bool.and_false,Bool.false_and]
 exact e1
theorem jJn {α:Type} {z:α} {n:Nat} (h:n<1000000):mk z (n:Int) (n:Int)=some (List.replicate n z):=by
 have hlim:(10000000:Int)≤lim:=by decide
 unfold mk
 rw [dT (by omega),dT (by omega),dT (by omega),Int.toNat_natCast];rfl
theorem TM {α β:Type} {f:α→β} {z:β} {l:List α} (h:∀ x ∈ l,f x=z):List.replicate l.length z=l.map f:=by
 rw [List.map_congr_left h,List.map_const']
theorem jQ7 {N:Nat} {p:GPermitPlan} (hp:FW p) (ho:EQ p) (hN:1000000≤N):DR N p=some (toR p (Qk p)):=by
 have hm:=hp.m
 have hs:=hp.s
 have hlim:lim ≥ 10000000:=by decide
 unfold DR
 rw [jJn (by omega),bS,jJn (by omega),bS,jJn (by omega),bS]
 have key:=A8 (N:=N) (n:=p.ak.length) (f:=uU N p) (fun i=>((⟨p,0,List.replicate p.ak.length 0,List.replicate p.ak.length [],(p.ak.take i).map (fun x=>x.To),List.replicate p.bM.length (⟨false,0,0,0⟩:dQ),[]⟩:af),(i:Int))) ((⟨p,0,List.replicate p.ak.length 0,List.replicate p.ak.length [],(p.ak.take p.ak.length).map (fun x=>x.To),List.replicate p.bM.length (⟨false,0,0,0⟩:dQ),[]⟩:af)) (fun i hi=>?_) ?_ (by omega)
 ·rw [List.take_length] at key
  have e:(⟨p,0,List.replicate p.ak.length 0,List.replicate p.ak.length [],p.ak.map (fun x=>x.To),List.replicate p.bM.length (⟨false,0,0,0⟩:dQ),[]⟩:af)=toR p (Qk p):=by
   show (⟨p,0,_,_,_,_,[]⟩:af)=⟨p,0,uy p (stA (Qk p)),uy p (fun n=>((Qk p).es n).AU),uy p (fun n=>((Qk p).es n).zF),OZ p (fun s=>Ll none),[]⟩
   congr 1
   ·exact TM fun x hx=>by unfold stA;rw [WW ho hx]
   ·exact TM fun x hx=>by simp only [WW ho hx]
   ·exact List.map_congr_left fun x hx=>by simp only [WW ho hx]
   ·exact TM fun x hx=>rfl
  show ((dX (uU N p) N ((⟨p,0,List.replicate p.ak.length 0,List.replicate p.ak.length [],[],List.replicate p.bM.length (⟨false,0,0,0⟩:dQ),[]⟩:af),0)).bind fun o8=>some o8)=_
  rw [show dX (uU N p) N ((⟨p,0,List.replicate p.ak.length 0,List.replicate p.ak.length [],[],List.replicate p.bM.length (⟨false,0,0,0⟩:dQ),[]⟩:af),0)=_ from key,e];rfl
 ·unfold uU
  simp only []
  rw [bU,dT (by omega),lW,jK hi,bS,A7 (by simp only [List.length_map,List.length_take,List.length_singleton];omega),bS,qX (by omega),List.take_succ_eq_append_getElem hi,List.map_append];rfl
 ·unfold uU
  simp only []
  rw [bU,dF (by omega),mD]
end Go.KB
