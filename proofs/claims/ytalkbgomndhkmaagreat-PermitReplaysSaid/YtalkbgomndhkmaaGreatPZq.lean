/- Plain laws of chapter 7: the open permits are a possible set. Plain laws of chapter 7: the reference office, its questions. Plain laws of chapter 7: the reference office settles. Plain laws of chapter 7: the reference office takes an event. Plain laws of chapter 7: the reference office lets persons in and out, and takes an event of a permit. Plain laws of chapter 7: the reference office takes an event as the office by names does. Plain laws of chapter 7: the reference office does what the office by names does, from the start. Replay: the office behind the events up to the first one that is refused. No condition. -/
import Derived.Test.YtalkbgomndhkmaaGreatPZo
import Derived.Test.YtalkbgomndhkmaaGreatPZp
namespace Go.KB
set_option linter.unusedVariables false
theorem Pv {p:GPermitPlan} {A:AO} {so:aH→Bool}:(nC p A so).length≤p.aj.length:=by
 unfold nC;rw [List.length_map];exact List.length_filter_le _ _
end Go.KB
namespace Go.KB
set_option linter.unusedVariables false
def Kt:Option au→dZ
 | none=>⟨false,0,0,0⟩
 | some t=>⟨true,t.at_,t.nO,t.QG⟩
def sO {β:Type} (p:GPermitPlan) (F:Str→β):List β:=p.aj.map fun x=>F x.Name
def NZ {β:Type} (p:GPermitPlan) (F:Str→β):List β:=p.bM.map fun x=>F x.Name
def Ku (q:Str×Str):fD:=⟨q.1,q.2⟩
def toR (p:GPermitPlan) (A:AO):ai:=⟨p,A.now,sO p (stA A),sO p (fun n=>(A.es n).zS),sO p (fun n=>(A.es n).yQ),NZ p (fun s=>Kt (A.ts s)),A.pp.map Ku⟩
def VR (p:GPermitPlan) (A:AO):Prop:=∀ q ∈ A.pp,xw p q.2=true
section
variable {β:Type} {p:GPermitPlan} {F G:Str→β}
theorem sU:(sO p F).length=p.aj.length:=by unfold sO;rw [List.length_map]
theorem Ju:(NZ p F).length=p.bM.length:=by unfold NZ;rw [List.length_map]
theorem jQb {i:Nat} (h:i<(sO p F).length):(sO p F)[i]=F (p.aj[i]'(by rw [sU] at h;exact h)).Name:=by simp [sO]
theorem jQd {i:Nat} (h:i<(NZ p F).length):(NZ p F)[i]=F (p.bM[i]'(by rw [Ju] at h;exact h)).Name:=by simp [NZ]
theorem Bv {i:Nat} (hi:i<p.aj.length):idx (sO p F) (i:Int)=some (F p.aj[i]!.Name):=by
 rw [jd (by rw [sU];exact hi)];unfold sO;rw [List.getElem_map,CB hi]
theorem ZK {i:Nat} (hi:i<p.bM.length):idx (NZ p F) (i:Int)=some (F p.bM[i]!.Name):=by
 rw [jd (by rw [Ju];exact hi)];unfold NZ;rw [List.getElem_map,CB hi]
theorem zZ (h:∀ x ∈ p.aj,F x.Name=G x.Name):sO p F=sO p G:=List.map_congr_left h
theorem XW (h:∀ x ∈ p.bM,F x.Name=G x.Name):NZ p F=NZ p G:=List.map_congr_left h
theorem Ld (ho:Ee p) {i:Nat} (hi:i<p.aj.length) (v:β):(sO p F).set i v=sO p (fun n=>bif decide (n=p.aj[i]!.Name) then v else F n):=by
 refine List.ext_getElem (by rw [List.length_set,sU,sU]) fun j h1 h2=>?_
 have h2':j<p.aj.length:=by rw [sU] at h2;exact h2
 rw [List.getElem_set]
 simp only [jQb]
 by_cases e:i=j
 ·subst e;rw [if_pos rfl,dT (congrArg aH.Name (CB hi).symm)];rfl
 ·rw [if_neg e,dF (fun he=>e (ho.pd i j hi h2' (by rw [CB h2'];exact he.symm)))];rfl
theorem jQf (ho:Ee p) {i:Nat} (hi:i<p.bM.length) (v:β):(NZ p F).set i v=NZ p (fun n=>bif decide (n=p.bM[i]!.Name) then v else F n):=by
 refine List.ext_getElem (by rw [List.length_set,Ju,Ju]) fun j h1 h2=>?_
 have h2':j<p.bM.length:=by rw [Ju] at h2;exact h2
 rw [List.getElem_set]
 simp only [jQd]
 by_cases e:i=j
 ·subst e;rw [if_pos rfl,dT (congrArg dG.Name (CB hi).symm)];rfl
 ·rw [if_neg e,dF (fun he=>e (ho.sd i j hi h2' (by rw [CB h2'];exact he.symm)))];rfl
end
theorem ltN (a b:Int):decide (a<b) = !decide (b≤a):=by rw [Bool.eq_iff_iff];simp
section
variable {N:Nat} {p:GPermitPlan} {A:AO} (hp:EP p) (ho:Ee p) (hN:1000000≤N) (b:I5 A)
include ho b in
theorem ZL {k:Nat} (hk:k<p.bM.length) {q:Bool}:sF N (toR p A) (k:Int) q=some (bif q then QT p A p.bM[k]!.Name else QU p A p.bM[k]!.Name):=by
 unfold sF QT QU
 show ((idx p.bM (k:Int)).bind fun v1=>bif (!v1.dH) then (some true) else ((idx (NZ p fun s=>Kt (A.ts s)) (k:Int)).bind fun v2=>bif (((((!v2.Done)||(aF .gtr (IntKind.i64.wrap (A.now - v2.At)) p.fU))||(aF .lss v2.oz 195))||(aF .gtr v2.oz 235))||(aF .gtr v2.GY 50)) then (some false) else (some ((!q)||(aF .leq v2.GY 10)))))=_
 rw [zL hk,bS,ZK hk,bS,ho.ZM (rH hk)]
 cases p.bM[k]!.dH with
 | false=>cases q <;> rfl
 | true =>
  simp only [Bool.not_true,lT]
  cases ht:A.ts p.bM[k]!.Name with
  | none=>cases q <;> rfl
  | some t =>
   have h1:=b.tt _ t ht
   have h2:=b.tm
   show (bif (((((!true)||(aF .gtr (IntKind.i64.wrap (A.now - t.at_)) p.fU))||(aF .lss t.nO 195))||(aF .gtr t.nO 235))||(aF .gtr t.QG 50)) then (some false) else (some ((!q)||(aF .leq t.QG 10))))=_
   rw [w64i (by omega) (by omega)]
   simp only [uf,bW,wK,ltN]
   cases decide (A.now - t.at_≤p.fU) <;> cases decide (195≤t.nO) <;> cases decide (t.nO≤235) <;> cases decide (t.QG≤50) <;> cases decide (t.QG≤10) <;> cases q <;> rfl
theorem Uo {p:GPermitPlan} {A:AO} {x:aH} {s:Str} (h:(y9 p s).dH=false):EK p A x s=true:=by
 unfold EK QT QU;rw [h];simp
theorem jQh (ho:Ee p) {x:aH} (hx:x ∈ p.aj):∀ k ∈ Qn p x,∃ j:Nat,k=(j:Int)∧j<p.bM.length:=by
 obtain ⟨s,hsl,f1,f2⟩:=ixS (ho.pk _ hx).2.2.2.2
 intro k hk
 unfold Qn at hk
 cases hn:AY x with
 | false=>rw [hn] at hk;cases hk
 | true =>
  rw [hn,lQ] at hk
  rcases List.mem_cons.1 hk with rfl | hk
  ·exact ⟨s,f1,hsl⟩
  ·cases h0:decide (x.Kind=0) with
   | false=>rw [h0] at hk;cases hk
   | true =>
    rw [h0,lQ,List.mem_map] at hk
    obtain ⟨j,hj,rfl⟩:=hk
    unfold plS at hj
    rw [List.mem_filter,List.mem_range] at hj
    exact ⟨j,rfl,hj.1⟩
theorem jQl {p:GPermitPlan} {x:aH}:(Qn p x).length≤1+p.bM.length:=by
 unfold Qn plS
 cases AY x with
 | false=>exact Nat.zero_le _
 | true =>
  rw [lQ,List.length_cons]
  cases decide (x.Kind=0) with
  | false=>simp
  | true =>
   rw [lQ,List.length_map]
   have:=List.length_filter_le (fun k=>decide (kY p x.Space p.bM[k]!.Name=1)) (List.range p.bM.length)
   rw [List.length_range] at this;omega
theorem ZN (ho:Ee p) {x:aH} (hx:x ∈ p.aj):((Qn p x).filter fun k=>!EK p A x p.bM[k.toNat]!.Name).map (fun k=>p.bM[k.toNat]!.Name)=AZ p A x:=by
 have hsp:=(ho.pk _ hx).2.2.2.2
 obtain ⟨s,hsl,f1,f2⟩:=ixS hsp
 have hnm:(y9 p x.Space).Name=x.Space:=(Le hsp).2
 unfold AZ Qn I7
 have hneed:x.Kind=0→AY x=true:=fun e=>by unfold AY;rw [e];rfl
 cases hn:AY x with
 | false=>rw [dF (fun e=>by rw [hneed e] at hn;cases hn)];rfl
 | true =>
  rw [lQ,Bool.true_and,f1,hnm]
  have htail:((bif decide (x.Kind=0) then (plS p x).map (fun (k:Nat)=>(k:Int)) else []).filter (fun k=>!EK p A x p.bM[k.toNat]!.Name)).map (fun k=>p.bM[k.toNat]!.Name)=(bif decide (x.Kind=0) then (p.bM.filter (fun y=>y.dH&&decide (kY p y.Name x.Space=1))).map (fun y=>y.Name) else []).filter (fun s=>!EK p A x s):=by
   cases decide (x.Kind=0) with
   | false=>rfl
   | true =>
    simp only [lQ]
    unfold plS
    rw [List.filter_map,List.map_map,List.filter_filter,List.filter_map,List.filter_filter,← Sm (fun a=>((fun s=>!EK p A x s) ∘ fun y:dG=>y.Name) a&&(a.dH&&decide (kY p a.Name x.Space=1))) (fun y:dG=>y.Name)]
    refine congrArg _ (List.filter_congr fun k hk=>?_)
    rw [List.mem_range] at hk
    simp only [Function.comp_apply,Int.toNat_natCast]
    rw [Px p x.Space]
    cases he:p.bM[k]!.dH with
    | true=>rw [Bool.true_and]
    | false=>rw [Uo (by rw [ho.ZM (rH hk)];exact he)];rfl
  rw [List.filter_cons,List.filter_append,← htail]
  have hs0:p.bM[(s:Int).toNat]!.Name=x.Space:=by rw [Int.toNat_natCast,f2,hnm]
  rw [hs0]
  cases he:(y9 p x.Space).dH with
  | true =>
   rw [lQ,List.filter_cons]
   cases EK p A x x.Space with
   | true=>rfl
   | false=>simp only [Bool.not_false,if_true,List.map_cons,hs0];rfl
  | false=>rw [Uo he];rfl
include hp ho hN b in
theorem Nr {i:Nat} (hi:i<p.aj.length):qi N (toR p A) (i:Int)=some (AZ p A p.aj[i]!):=by
 have hs:=hp.s
 have hlim:lim ≥ 1000000:=by decide
 have hx:=rH hi
 have hl:=jQl (p:=p) (x:=p.aj[i]!)
 unfold qi
 show ((xW N p (i:Int)).bind fun v1=>_)=_
 rw [VU hp ho hi hN,bS]
 rw [CP (f:=og N (toR p A) (i:Int) (Qn p p.aj[i]!)) (Qn p p.aj[i]!) [] (fun k=>!EK p A p.aj[i]! p.bM[k.toNat]!.Name) (fun k=>p.bM[k.toNat]!.Name) (fun a i=>(a,i)) (fun a=>a) (fun j hj acc hacc=>?_) (fun acc=>?_) (by omega)]
 ·rw [ZN ho hx];rfl
 ·obtain ⟨k,hk,hkl⟩:=jQh ho hx _ (List.getElem_mem hj)
  simp only [List.length_nil] at hacc
  unfold og
  simp only []
  rw [bW,dT (by omega),lQ,jd hj,bS,hk]
  show ((idx p.aj (i:Int)).bind fun v4=>(sF N (toR p A) (k:Int) (aF .eql v4.Kind 0)).bind fun v5=>bif (!v5) then ((some (k:Int)).bind fun v6=>(idx p.bM v6).bind fun v7=>(app acc [v7.Name]).bind fun v8=>some (Sum.inl (v8,(IntKind.i64.wrap ((j:Int)+1))))) else (some (.inl (acc,(IntKind.i64.wrap ((j:Int)+1))))))=_
  rw [zL hi,bS,ZL ho b hkl,bS,bS,zL hkl,bS,qx (by omega),Int.toNat_natCast,iW]
  show (bif !EK p A p.aj[i]! p.bM[k]!.Name then _ else _)=_
  cases EK p A p.aj[i]! p.bM[k]!.Name with
  | true=>rfl
  | false=>simp only [Bool.not_false,lQ];rw [Ah (by simp only [List.length_singleton];omega)];rfl
 ·unfold og
  simp only []
  rw [bW,dF (by omega),lT]
include hp ho hN in
theorem Lh {i:Nat} (hi:i<p.aj.length):oZ N (toR p A) (i:Int)=some (E8 A p.aj[i]!):=by
 have hm:=hp.m
 have hlim:lim ≥ 1000000:=by decide
 have hx:=rH hi
 have hl:=hp.l _ hx
 unfold oZ
 show ((idx p.aj (i:Int)).bind fun v1=>_)=_
 rw [zL hi,bS]
 rw [CP (f:=nR N (toR p A) p.aj[i]!) p.aj[i]!.Locks [] (fun s=>!decide (stA A s=2)) (fun s=>s) (fun a i=>(a,i)) (fun a=>a) (fun j hj acc hacc=>?_) (fun acc=>?_) (by omega)]
 ·rw [List.nil_append,List.map_id'];rfl
 ·simp only [List.length_nil] at hacc
  obtain ⟨k,hk,e1,e2⟩:=ixP (ho.lk _ hx _ (List.getElem_mem hj)).1
  have hnm:=(Ap (ho.lk _ hx _ (List.getElem_mem hj)).1).2
  unfold nR
  simp only []
  rw [bW,dT (by omega),lQ,jd hj,bS]
  show ((qH N p p.aj[i]!.Locks[j]).bind fun v4=>(idx (sO p (stA A)) v4).bind fun v5=>_)=_
  rw [H6 (by omega) hN,bS,e1,Bv hk,bS,e2,hnm,qN,qx (by omega),bS]
  cases decide (stA A p.aj[i]!.Locks[j]=2) with
  | true=>rfl
  | false=>simp only [Bool.not_false,lQ];rw [Ah (by simp only [List.length_singleton];omega)];rfl
 ·unfold nR
  simp only []
  rw [bW,dF (by omega),lT]
include hp hN b in
theorem Py (ps:VR p A) {s:Str} (hs:xw p s=true) {k:Int}:nP N (toR p A) s k=some (yV A fun t=>decide (kY p t s≤k)):=by
 have hlim:lim ≥ 1000000:=by decide
 have hb:=b.pl
 unfold nP
 rw [CP (f:=oI N (toR p A) s k) A.pp [] (fun q=>decide (kY p q.2 s≤k)) (fun q=>q.1) (fun a i=>(a,i)) (fun a=>a) (fun j hj acc hacc=>?_) (fun acc=>?_) (by omega)]
 ·rfl
 ·simp only [List.length_nil] at hacc
  unfold oI
  simp only []
  show (bif (aF .lss (j:Int) (List.length (A.pp.map Ku):Int)) then ((idx (A.pp.map Ku) (j:Int)).bind fun v2=>(mG N p v2.Space s).bind fun v3=>bif (aF .leq v3 k) then ((idx (A.pp.map Ku) (j:Int)).bind fun v4=>(app acc [v4.Name]).bind fun v5=>some (Sum.inl (v5,(IntKind.i64.wrap ((j:Int)+1))))) else (some (.inl (acc,(IntKind.i64.wrap ((j:Int)+1)))))) else (some (.inr acc)))=_
  rw [List.length_map,bW,dT (by omega),lQ,jd (by rw [List.length_map];exact hj),List.getElem_map,bS,bS]
  show ((mG N p A.pp[j].2 s).bind fun v3=>_)=_
  rw [Bz hp (ps _ (List.getElem_mem hj)) hs hN,bS,wK,qx (by omega)]
  cases decide (kY p A.pp[j].2 s≤k) with
  | false=>rfl
  | true=>simp only [lQ];rw [Ah (by simp only [List.length_singleton];omega)];rfl
 ·unfold oI
  simp only []
  show (bif (aF .lss (A.pp.length:Int) (List.length (A.pp.map Ku):Int)) then _ else _)=_
  rw [List.length_map,bW,dF (by omega),lT]
theorem near0 {a s:Str}:decide (kY p a s≤0)=decide (a=s):=by
 refine decide_eq_decide.2 ⟨fun h=>?_,fun h=>by rw [h];unfold kY;rw [if_pos rfl];omega⟩
 unfold kY at h
 by_cases e:a=s
 ·exact e
 ·rw [if_neg e] at h
  cases hb:(EQ (y9 p a).Next s||EQ (y9 p s).Next a) <;> rw [hb] at h <;> simp at h
theorem Pz {o:List bV} {r:bV} {c:Bool} (h:o.length<100):((bif c then ((app o [r]).bind fun v=>some v) else (some o)):Option (List bV))=some (o ++ bif c then [r] else []):=by
 have hlim:lim ≥ 1000000:=by decide
 cases c with
 | false=>rw [lT,lT,List.append_nil]
 | true=>rw [lQ,lQ,Ah (by simp only [List.length_singleton];omega)];rfl
theorem N7 {r:bV} {c:Bool}:(bif c then [r] else []).length≤1:=by cases c <;> simp
theorem VW {r:bV}:[r].filter (fun r=>!r.Names.isEmpty)=bif !r.Names.isEmpty then [r] else []:=by
 rw [List.filter_cons];cases r.Names.isEmpty <;> rfl
include hp ho hN b in
theorem Ur (ps:VR p A) {i:Nat} (hi:i<p.aj.length):qc N (toR p A) (i:Int)=some (Gz p A p.aj[i]!):=by
 have hm:=hp.m
 have hlim:lim ≥ 1000000:=by decide
 have hx:=rH hi
 unfold qc
 show ((idx p.aj (i:Int)).bind fun v1=>_)=_
 rw [zL hi,bS]
 have hopen:dU (mY N (toR p A) (i:Int)) N ([],0)=some (nC p A (fun y=>yg p y p.aj[i]!)):=by
  rw [CP (f:=mY N (toR p A) (i:Int)) p.aj [] (fun y=>decide (stA A y.Name=2)&&yg p y p.aj[i]!) (fun y=>y.Name) (fun a i=>(a,i)) (fun a=>a) (fun j hj acc hacc=>?_) (fun acc=>?_) (by omega)]
  ·rfl
  ·simp only [List.length_nil] at hacc
   unfold mY
   simp only []
   show (bif (aF .lss (j:Int) (List.length (sO p (stA A)):Int)) then ((idx (sO p (stA A)) (j:Int)).bind fun v12=>(bif (aF .eql v12 2) then (vz N p (i:Int) (j:Int)) else some false).bind fun v13=>bif ((aF .eql v12 2)&&v13) then ((idx p.aj (j:Int)).bind fun v14=>(app acc [v14.Name]).bind fun v15=>some (Sum.inl (v15,(IntKind.i64.wrap ((j:Int)+1))))) else (some (.inl (acc,(IntKind.i64.wrap ((j:Int)+1)))))) else (some (.inr acc)))=_
   rw [sU,bW,dT (by omega),lQ,Bv hj,bS,Sr hp ho hi hj hN,zL hj,bS,qx (by omega),iW,← CB hj,Kv p p.aj[i]!]
   cases decide (stA A p.aj[j]!.Name=2) with
   | false=>rfl
   | true =>
    cases yg p p.aj[j]! p.aj[i]! with
    | false=>rfl
    | true=>simp only [Bool.true_and,lQ,bS];rw [Ah (by simp only [List.length_singleton];omega)];rfl
  ·unfold mY
   simp only []
   show (bif (aF .lss (p.aj.length:Int) (List.length (sO p (stA A)):Int)) then _ else _)=_
   rw [sU,bW,dF (by omega),lT]
 rw [Lh hp ho hN hi,hopen,Nr hp ho hN b hi,Py hp hN b ps (ho.pk _ hx).2.2.2.2]
 simp only [bS,gt0]
 unfold Gz
 generalize E8 A p.aj[i]! = u
 generalize nC p A (fun y=>yg p y p.aj[i]!)=o
 generalize AZ p A p.aj[i]! = l
 generalize yV A (fun t=>decide (kY p t p.aj[i]!.Space≤1))=q
 rw [bW,iW]
 show ((bif decide (A.now<p.aj[i]!.From) then ((app [] [(⟨2,[]⟩:bV)]).bind fun v2=>some v2) else (some [])).bind fun o4=>_)=_
 generalize decide (A.now<p.aj[i]!.From)=c0
 generalize decide (p.aj[i]!.Kind=3)=c3
 rw [Pz (by simp),bS]
 have l1:(([]:List bV) ++ bif c0 then [(⟨2,[]⟩:bV)] else []).length≤1:=by rw [List.nil_append];exact N7
 rw [Pz (Nat.lt_of_le_of_lt l1 (by decide)),bS]
 have l2:((([]:List bV) ++ bif c0 then [(⟨2,[]⟩:bV)] else []) ++ bif !u.isEmpty then [(⟨18,u⟩:bV)] else []).length≤2:=by
  rw [List.length_append];exact Nat.add_le_add l1 N7
 rw [Pz (Nat.lt_of_le_of_lt l2 (by decide)),bS]
 have l3:(((([]:List bV) ++ bif c0 then [(⟨2,[]⟩:bV)] else []) ++ bif !u.isEmpty then [(⟨18,u⟩:bV)] else []) ++ bif !o.isEmpty then [(⟨20,o⟩:bV)] else []).length≤3:=by
  rw [List.length_append];exact Nat.add_le_add l2 N7
 rw [Pz (Nat.lt_of_le_of_lt l3 (by decide)),bS]
 rw [Pz (by rw [List.length_append];exact Nat.lt_of_le_of_lt (Nat.add_le_add l3 N7) (by decide))]
 congr 1
 rw [List.filter_append,show ([(⟨18,u⟩:bV),(⟨20,o⟩:bV),(⟨21,l⟩:bV)].filter fun r=>!r.Names.isEmpty)=(bif !u.isEmpty then [(⟨18,u⟩:bV)] else []) ++ ((bif !o.isEmpty then [(⟨20,o⟩:bV)] else []) ++ (bif !l.isEmpty then [(⟨21,l⟩:bV)] else [])) from by
  rw [List.filter_cons,List.filter_cons,List.filter_cons,List.filter_nil]
  cases u.isEmpty <;> cases o.isEmpty <;> cases l.isEmpty <;> rfl,show (bif c3 then [(⟨17,q⟩:bV)] else []).filter (fun r=>!r.Names.isEmpty)=(bif c3 && !q.isEmpty then [(⟨17,q⟩:bV)] else []) from by
  cases c3 with
  | false=>rfl
  | true=>exact VW]
 simp only [List.nil_append,List.append_assoc]
end
end Go.KB
namespace Go.KB
set_option linter.unusedVariables false
theorem Sv {p:GPermitPlan} {A A':AO} (hn:A'.now=A.now) (ht:A'.ts=A.ts) (hp:A'.pp=A.pp) (hb:∀ n,(A'.es n).zS=(A.es n).zS) (hto:∀ n,(A'.es n).yQ=(A.es n).yQ):({ toR p A with cO:=sO p (stA A') }:ai)=toR p A':=by
 unfold toR
 rw [hn,ht,hp]
 simp only [hb,hto]
def CG (A:AO) (p:GPermitPlan) (E:Str→ah) (i:Nat):AO:={ A with es:=fun s=>bif DF p i s then E s else A.es s }
section
variable {p:GPermitPlan} {A:AO} {E:Str→ah}
theorem Us {i:Nat} (hi:i<p.aj.length) {n:Str}:stA (CG A p E (i+1)) n=bif decide (n=p.aj[i]!.Name) then (E n).state else stA (CG A p E i) n:=by
 show (bif DF p (i+1) n then E n else A.es n).state=bif decide (n=p.aj[i]!.Name) then (E n).state else (bif DF p i n then E n else A.es n).state
 rw [I8 hi,CB hi,show decide (p.aj[i].Name=n)=decide (n=p.aj[i].Name) from decide_eq_decide.2 ⟨Eq.symm,Eq.symm⟩]
 cases DF p i n <;> cases decide (n=p.aj[i].Name) <;> rfl
theorem Sz (ho:Ee p) {i:Nat} (hi:i<p.aj.length):stA (CG A p E i) p.aj[i]!.Name=stA A p.aj[i]!.Name:=by
 show (bif DF p i p.aj[i]!.Name then E p.aj[i]!.Name else A.es p.aj[i]!.Name).state=_
 have:DF p i p.aj[i]!.Name=false:=by rw [CB hi];exact SA ho hi
 rw [this];rfl
theorem PD (ho:Ee p) {i:Nat} (hi:i<p.aj.length) {v:Int} (hv:v=(E p.aj[i]!.Name).state):(sO p (stA (CG A p E i))).set i v=sO p (stA (CG A p E (i+1))):=by
 rw [Ld ho hi]
 refine zZ fun x _=>?_
 rw [Us hi]
 by_cases e:x.Name=p.aj[i]!.Name
 ·rw [dT e,lQ,lQ,hv,e]
 ·rw [dF e];rfl
theorem EL (ho:Ee p) {i:Nat} (hi:i<p.aj.length) (hv:stA A p.aj[i]!.Name=(E p.aj[i]!.Name).state):sO p (stA (CG A p E i))=sO p (stA (CG A p E (i+1))):=by
 refine zZ fun x _=>?_
 rw [Us hi]
 by_cases e:x.Name=p.aj[i]!.Name
 ·rw [dT e,lQ,e,← hv,Sz ho hi]
 ·rw [dF e];rfl
theorem PE:sO p (stA (CG A p E 0))=sO p (stA A):=zZ fun x _=>by
 show (bif DF p 0 x.Name then E x.Name else A.es x.Name).state=_
 have:DF p 0 x.Name=false:=by unfold DF;simp
 rw [this];rfl
theorem SB:sO p (stA (CG A p E p.aj.length))=sO p (fun n=>(E n).state):=zZ fun x hx=>by
 show (bif DF p p.aj.length x.Name then E x.Name else A.es x.Name).state=_
 rw [Lj,zM.2 ⟨x,hx,rfl⟩];rfl
end
section
variable {N:Nat} {p:GPermitPlan} {A:AO} (hp:EP p) (ho:Ee p) (hN:1000000≤N) (b:I5 A)
include hp ho hN in
theorem XY:dU (l9 N (toR p A)) N (0,sO p (stA A))=some (sO p (stA (Bc p A))):=by
 have hm:=hp.m
 have key:=CJ (N:=N) (n:=p.aj.length) (f:=l9 N (toR p A)) (fun i=>((i:Int),sO p (stA (CG A p (fun s=>Bd A.now (A.es s)) i)))) (sO p (stA (CG A p (fun s=>Bd A.now (A.es s)) p.aj.length))) (fun i hi=>?_) ?_ (by omega)
 ·rw [PE,SB] at key
  rw [show ((0:Nat):Int)=0 from rfl] at key
  rw [key]
  congr 1
  refine zZ fun x hx=>?_
  show _=(bif mX p x.Name then Bd A.now (A.es x.Name) else A.es x.Name).state
  rw [zM.2 ⟨x,hx,rfl⟩];rfl
 ·unfold l9
  simp only []
  show (bif (aF .lss (i:Int) (List.length (sO p (stA (CG A p (fun s=>Bd A.now (A.es s)) i))):Int)) then ((idx (sO p (stA (CG A p (fun s=>Bd A.now (A.es s)) i))) (i:Int)).bind fun v8=>(bif (aF .leq v8 3) then (idx (sO p (fun n=>(A.es n).yQ)) (i:Int)) else some 0).bind fun v9=>bif ((aF .leq v8 3)&&(aF .leq v9 A.now)) then ((idx (sO p (stA (CG A p (fun s=>Bd A.now (A.es s)) i))) (i:Int)).bind fun v10=>some (Sum.inl ((IntKind.i64.wrap ((i:Int)+1)),(List.set (sO p (stA (CG A p (fun s=>Bd A.now (A.es s)) i))) (Int.toNat (i:Int)) 6)))) else (some (Sum.inl ((IntKind.i64.wrap ((i:Int)+1)),sO p (stA (CG A p (fun s=>Bd A.now (A.es s)) i)))))) else (some (Sum.inr (sO p (stA (CG A p (fun s=>Bd A.now (A.es s)) i))))))=_
  rw [sU,bW,dT (by omega),lQ,Bv hi,bS,Bv hi,Sz ho hi,qx (by omega),bS,Int.toNat_natCast]
  simp only [wK]
  cases h1:decide (stA A p.aj[i]!.Name≤3) with
  | false =>
   simp only [lT,bS,Bool.false_and]
   rw [EL ho hi (by show stA A _=(Bd _ _).state;unfold Bd;rw [show decide ((A.es p.aj[i]!.Name).state≤3)=false from h1];rfl)]
  | true =>
   simp only [lQ,bS,Bool.true_and]
   cases h2:decide ((A.es p.aj[i]!.Name).yQ≤A.now) with
   | false =>
    rw [lT]
    rw [EL ho hi (by show stA A _=(Bd _ _).state;unfold Bd;rw [h2,Bool.and_false];rfl)]
   | true =>
    rw [lQ]
    rw [PD ho hi (by show (6:Int)=(Bd _ _).state;unfold Bd;rw [show decide ((A.es p.aj[i]!.Name).state≤3)=true from h1,h2];rfl)]
 ·unfold l9
  simp only []
  rw [sU,bW,dF (by omega),lT]
theorem ZO {p:GPermitPlan} {B:AO} {n:Str}:((zo p B).es n).zS=(B.es n).zS:=by
 show (bif _ then ({ B.es n with state:=3 }:ah) else B.es n).zS=_
 cases (mX p n&&decide (stA B n=2)&&yh p B (sH p n)) <;> rfl
theorem ZP {p:GPermitPlan} {A:AO} {n:Str}:((Bc p A).es n).zS=(A.es n).zS:=by
 show (bif mX p n then Bd A.now (A.es n) else A.es n).zS=_
 unfold Bd
 cases mX p n <;> cases (decide ((A.es n).state≤3)&&decide ((A.es n).yQ≤A.now)) <;> rfl
theorem QV {p:GPermitPlan} {A:AO} {n:Str}:((gZ p A).es n).zS=(A.es n).zS:=ZO.trans ZP
include hp ho hN in
theorem QW {B:AO} (b:I5 B) (hn:B.now=A.now) (ht:B.ts=A.ts) (hpp:B.pp=A.pp) (hb:∀ n,(B.es n).zS=(A.es n).zS) (hto:∀ n,(B.es n).yQ=(A.es n).yQ):dU (mg N (toR p A)) N (false,0,sO p (stA B))=some (p.aj.any (fun x=>decide (stA B x.Name=2)&&yh p B x),sO p (stA (zo p B))):=by
 have hm:=hp.m
 have key:=CJ (N:=N) (n:=p.aj.length) (f:=mg N (toR p A)) (fun i=>((p.aj.take i).any (fun x=>decide (stA B x.Name=2)&&yh p B x),(i:Int),sO p (stA (CG B p (zo p B).es i)))) ((p.aj.take p.aj.length).any (fun x=>decide (stA B x.Name=2)&&yh p B x),sO p (stA (CG B p (zo p B).es p.aj.length))) (fun i hi=>?_) ?_ (by omega)
 ·rw [PE,SB,List.take_length] at key
  exact key
 ·have hx:=rH hi
  have hh:mX p p.aj[i]!.Name=true:=zM.2 ⟨_,hx,rfl⟩
  have hC:({ toR p A with cO:=sO p (stA (CG B p (zo p B).es i)) }:ai)=toR p (CG B p (zo p B).es i):=Sv hn ht hpp (fun n=>by
    show (bif DF p i n then (zo p B).es n else B.es n).zS=_
    rw [← hb n]
    cases DF p i n
    ·rfl
    ·exact ZO) (fun n=>by
    show (bif DF p i n then (zo p B).es n else B.es n).yQ=_
    rw [← hto n]
    cases DF p i n
    ·rfl
    ·exact ZQ)
  have bC:I5 (CG B p (zo p B).es i):=⟨b.tm,fun s=>by
    show 0≤(bif DF p i s then (zo p B).es s else B.es s).state∧(bif DF p i s then (zo p B).es s else B.es s).state≤6
    cases DF p i s
    ·exact b.st s
    ·exact (b.sus (p:=p)).st s,b.tt,b.pl⟩
  have hla:AZ p (CG B p (zo p B).es i) p.aj[i]! = AZ p B p.aj[i]!:=rfl
  have hun:E8 (CG B p (zo p B).es i) p.aj[i]! = E8 B p.aj[i]!:=by
   unfold E8
   refine List.filter_congr fun l hl=>?_
   have:=ho.lk _ hx l hl
   have e:stA (CG B p (zo p B).es i) l=stA B l:=by
    show (bif DF p i l then (zo p B).es l else B.es l).state=_
    rw [Xd ho this.1 this.2.1]
    cases DF p i l <;> rfl
   rw [e]
  have hany:(p.aj.take (i+1)).any (fun x=>decide (stA B x.Name=2)&&yh p B x)=((p.aj.take i).any (fun x=>decide (stA B x.Name=2)&&yh p B x)||(decide (stA B p.aj[i]!.Name=2)&&yh p B p.aj[i]!)):=by
   rw [List.take_succ_eq_append_getElem hi,List.any_append,CB hi];simp
  have XZ:((zo p B).es p.aj[i]!.Name).state=(bif decide (stA B p.aj[i]!.Name=2)&&yh p B p.aj[i]! then 3 else stA B p.aj[i]!.Name):=by
   show (bif mX p p.aj[i]!.Name&&decide (stA B p.aj[i]!.Name=2)&&yh p B (sH p p.aj[i]!.Name) then ({ B.es p.aj[i]!.Name with state:=3 }:ah) else B.es p.aj[i]!.Name).state=_
   rw [hh,ho.FT hx,Bool.true_and]
   cases (decide (stA B p.aj[i]!.Name=2)&&yh p B p.aj[i]!) <;> rfl
  have l1:(AZ p B p.aj[i]!).length<2000:=Nat.lt_of_le_of_lt (List.length_filter_le _ _) (PG hp)
  have l2:(E8 B p.aj[i]!).length<1000:=Nat.lt_of_le_of_lt (List.length_filter_le _ _) (hp.l _ hx)
  have hbad:aF .gtr (IntKind.i64.wrap (((AZ p B p.aj[i]!).length:Int)+((E8 B p.aj[i]!).length:Int))) 0=yh p B p.aj[i]!:=by
   rw [w64i (by omega) (by omega),uf]
   unfold yh
   cases hL:AZ p B p.aj[i]! with
   | nil =>
    cases hU:E8 B p.aj[i]! with
    | nil=>rfl
    | cons y r=>exact dT (by simp only [List.length_nil,List.length_cons];omega)
   | cons y r=>exact dT (by simp only [List.length_cons];omega)
  unfold mg
  simp only []
  rw [hC,sU,bW,dT (by omega),lQ,Bv hi,bS,Sz ho hi,Nr hp ho hN bC hi,Lh hp ho hN hi,hla,hun,qx (by omega),Int.toNat_natCast,iW,hany]
  cases h2:decide (stA B p.aj[i]!.Name=2) with
  | false =>
   simp only [lT,bS,Bool.false_and,Bool.or_false]
   rw [EL ho hi (by rw [XZ,h2];rfl)]
  | true =>
   simp only [lQ,bS,Bool.true_and]
   rw [hbad]
   cases hbd:yh p B p.aj[i]! with
   | false =>
    rw [lT,Bool.or_false]
    rw [EL ho hi (by rw [XZ,h2,hbd];rfl)]
   | true =>
    rw [lQ,Bool.or_true,PD ho hi (by rw [XZ,h2,hbd];rfl)]
 ·unfold mg
  simp only []
  rw [sU,bW,dF (by omega),lT]
theorem VX {R:ai} (h1:R.cO.length<1000000) (h2:R.By.length<1000000) (h3:R.To.length<1000000) (h4:R.Tests.length<1000000) (h5:R.oC.length<1000000):kZ N R=some R:=by
 have hlim:lim ≥ 1000000:=by decide
 have hc:∀ {l:List Int},l.length<1000000→sK N l=some l:=fun {l} h=>by
  unfold sK
  rw [Ah (by simp only [List.length_nil];omega)];rfl
 unfold kZ
 rw [hc h1,bS]
 simp only []
 rw [Ah (by simp only [List.length_nil];omega),bS,hc h3,bS,Ah (by simp only [List.length_nil];omega),bS,Ah (by simp only [List.length_nil];omega),bS]
 simp only [List.nil_append]
include hp b in
theorem I9:kZ N (toR p A)=some (toR p A):=by
 have h1:=hp.m
 have h2:=hp.s
 have h3:=b.pl
 have e:∀ {β:Type} {F:Str→β},(sO p F).length<1000000:=fun {β F}=>by rw [sU];omega
 have e':∀ {β:Type} {F:Str→β},(NZ p F).length<1000000:=fun {β F}=>by rw [Ju];omega
 exact VX (e (F:=stA A)) (e (F:=fun n=>(A.es n).zS)) (e (F:=fun n=>(A.es n).yQ)) (e' (F:=fun s=>Kt (A.ts s))) (by show (A.pp.map Ku).length<_;rw [List.length_map];omega)
include hp ho hN b in
theorem PI:oN N (toR p A)=some (toR p (gZ p A)):=by
 unfold oN
 rw [I9 hp b,bS]
 show ((dU (l9 N (toR p A)) N (0,sO p (stA A))).bind fun U3=>_)=_
 rw [XY hp ho hN,bS]
 have h2:=QW (A:=A) (B:=Bc p A) hp ho hN b.exp rfl rfl rfl (fun n=>ZP) (fun n=>ZR)
 have h3:=QW (A:=A) (B:=gZ p A) hp ho hN b.settle rfl rfl rfl (fun n=>QV) (fun n=>Jv)
 have e3:p.aj.any (fun x=>decide (stA (gZ p A) x.Name=2)&&yh p (gZ p A) x)=false:=by
  rw [Bool.eq_false_iff]
  intro hx
  rw [List.any_eq_true] at hx
  obtain ⟨x,hx,hb⟩:=hx
  rw [Bool.and_eq_true,decide_eq_true_eq] at hb
  rw [Dk ho hx hb.1] at hb
  cases hb.2
 have e4:sO p (stA (zo p (gZ p A)))=sO p (stA (gZ p A)):=zZ fun x hx=>by
  rcases MO (p:=p) (A:=gZ p A) (s:=x.Name) with ⟨e,_⟩ | ⟨_,e5,e6⟩
  ·exact e
  ·rw [ho.FT hx,Dk ho hx e5] at e6;cases e6
 rw [e3,e4] at h3
 change dU _ N (false,0,sO p (stA (Bc p A)))=some (_,sO p (stA (gZ p A))) at h2
 generalize p.aj.any (fun x=>decide (stA (Bc p A) x.Name=2)&&yh p (Bc p A) x)=f2 at h2
 have fin:({ toR p A with cO:=sO p (stA (gZ p A)) }:ai)=toR p (gZ p A):=Sv rfl rfl rfl (fun n=>QV) (fun n=>Jv)
 obtain ⟨M,rfl⟩:∃ M,N=M+3:=⟨N - 3,by omega⟩
 have step:∀ (st:List Int) (o:Bool×List Int),dU (mg (M+3) (toR p A)) (M+3) (false,0,st)=some o→nG (M+3) (toR p A) (true,st)=some (.inl o):=by
  intro st o ho
  unfold nG
  rw [lQ,ho];rfl
 have stop:∀ st:List Int,nG (M+3) (toR p A) (false,st)=some (.inr st):=fun st=>rfl
 have hl:dU (nG (M+3) (toR p A)) (M+3) (true,sO p (stA (Bc p A)))=some (sO p (stA (gZ p A))):=by
  cases f2 with
  | false=>simp only [dU,step _ _ h2,stop]
  | true=>simp only [dU,step _ _ h2,step _ _ h3,stop]
 rw [hl,bS,fin]
end
end Go.KB
namespace Go.KB
set_option linter.unusedVariables false
theorem any_map {α β:Type} {g:α→Bool} {h:α→β} {l:List α}:(!((l.filter g).map h).isEmpty)=l.any g:=by
 induction l with
 | nil=>rfl
 | cons x r ih =>
  rw [List.filter_cons,List.any_cons]
  cases hg:g x with
  | true=>rfl
  | false=>rw [Bool.false_or];exact ih
theorem QX {α:Type} [Inhabited α] {g:α→Bool} {l:List α}:((List.range l.length).any fun k=>g l[k]!)=l.any g:=by
 rw [Bool.eq_iff_iff,List.any_eq_true,List.any_eq_true]
 constructor
 ·rintro ⟨k,hk,h⟩;rw [List.mem_range] at hk;exact ⟨_,rH hk,h⟩
 ·rintro ⟨x,hx,h⟩
  obtain ⟨k,hk,rfl⟩:=List.getElem_of_mem hx
  exact ⟨k,List.mem_range.2 hk,by rw [CB hk];exact h⟩
section
variable {β:Type} {p:GPermitPlan} {F:Str→β}
theorem Ja (ho:Ee p) {i:Nat} (hi:i<p.aj.length):(sO p F).set i (F p.aj[i]!.Name)=sO p F:=by
 rw [Ld ho hi]
 refine zZ fun x _=>?_
 by_cases e:x.Name=p.aj[i]!.Name
 ·rw [dT e,lQ,e]
 ·rw [dF e];rfl
theorem ZT (ho:Ee p) {A:AO} {i:Nat} (hi:i<p.aj.length) {e:ah}:toR p (VY A p.aj[i]!.Name e)={ toR p A with cO:=(sO p (stA A)).set i e.state,By:=(sO p fun n=>(A.es n).zS).set i e.zS,To:=(sO p fun n=>(A.es n).yQ).set i e.yQ }:=by
 rw [Ld ho hi,Ld ho hi,Ld ho hi]
 have h:∀ {γ:Type} (f:ah→γ),(sO p fun n=>f ((VY A p.aj[i]!.Name e).es n))=sO p fun n=>bif decide (n=p.aj[i]!.Name) then f e else f (A.es n):=fun f=>zZ fun x _=>by
  show f (bif decide (x.Name=p.aj[i]!.Name) then e else A.es x.Name)=_
  cases decide (x.Name=p.aj[i]!.Name) <;> rfl
 show (⟨p,A.now,_,_,_,_,_⟩:ai)=⟨p,A.now,_,_,_,_,_⟩
 congr 1
 ·exact h (fun e=>e.state)
 ·exact h (fun e=>e.zS)
 ·exact h (fun e=>e.yQ)
theorem toR_be (ho:Ee p) {A:AO} {i:Nat} (hi:i<p.aj.length) {k:Int}:toR p (Qb A p.aj[i]!.Name k)={ toR p A with cO:=(sO p (stA A)).set i k }:=by
 unfold Qb
 rw [ZT ho hi]
 have h1:=Ja (F:=fun n=>(A.es n).zS) ho hi
 have h2:=Ja (F:=fun n=>(A.es n).yQ) ho hi
 rw [h1,h2];rfl
end
section
variable {N:Nat} {p:GPermitPlan} {A:AO} (hp:EP p) (ho:Ee p) (hN:1000000≤N) (b:I5 A)
include hN b in
theorem QY {n:Str}:qY N (toR p A) n=some (Il (fun q=>decide (q.1=n)) A.pp):=by
 have hb:=b.pl
 unfold qY
 refine zf (fun i hi=>?_) ?_ (by omega)
 ·unfold qZ
  show (bif (aF .lss (i:Int) (List.length (A.pp.map Ku):Int)) then ((idx (A.pp.map Ku) (i:Int)).bind fun v2=>bif (zK .eql v2.Name n) then (some (Sum.inr (Sum.inr (i:Int)))) else (some (Sum.inl (IntKind.i64.wrap ((i:Int)+1))))) else (some (Sum.inr (Sum.inl ()))))=_
  rw [List.length_map,bW,dT (by omega),lQ,jd (by rw [List.length_map];exact hi),List.getElem_map,bS,rJ,qx (by omega)];rfl
 ·unfold qZ
  show (bif (aF .lss (A.pp.length:Int) (List.length (A.pp.map Ku):Int)) then _ else _)=_
  rw [List.length_map,bW,dF (by omega),lT]
include hp hN in
theorem QZ {s:Str} {k:Int}:mr N (toR p A) s k=some ((List.range p.aj.length).any fun j=>!decide ((j:Int)=k)&&(decide (stA A p.aj[j]!.Name=2)&&(decide (p.aj[j]!.Kind=1)&&decide (p.aj[j]!.Space=s)))):=by
 have hm:=hp.m
 have h:=PK (l:=List.range p.aj.length) (N:=N) (f:=nI N (toR p A) s k) (g:=fun j=>!decide ((j:Int)=k)&&(decide (stA A p.aj[j]!.Name=2)&&(decide (p.aj[j]!.Kind=1)&&decide (p.aj[j]!.Space=s)))) (fun i hi=>?_) ?_ (by rw [List.length_range];omega)
 ·exact h
 ·rw [List.length_range] at hi
  unfold nI
  show (bif (aF .lss (i:Int) (List.length (sO p (stA A)):Int)) then ((idx p.aj (i:Int)).bind fun v2=>(bif (aF .neq (i:Int) k) then (idx (sO p (stA A)) (i:Int)) else some 0).bind fun v3=>bif ((((aF .neq (i:Int) k)&&(aF .eql v3 2))&&(aF .eql v2.Kind 1))&&(zK .eql v2.Space s)) then (some (Sum.inr (Sum.inr true))) else (some (Sum.inl (IntKind.i64.wrap ((i:Int)+1))))) else (some (Sum.inr (Sum.inl ()))))=_
  rw [sU,bW,dT (by omega),lQ,zL hi,bS,Bv hi,qN,qx (by omega),List.getElem_range]
  simp only [iW,rJ]
  cases decide ((i:Int)=k) with
  | true=>rfl
  | false=>simp only [Bool.not_false,lQ,bS,Bool.true_and,Bool.and_assoc]
 ·unfold nI
  rw [List.length_range]
  show (bif (aF .lss (p.aj.length:Int) (List.length (sO p (stA A)):Int)) then _ else _)=_
  rw [sU,bW,dF (by omega),lT]
include hp hN in
theorem Ut {s:Str}:mr N (toR p A) s (-1)=some (xM p A s):=by
 rw [QZ hp hN]
 congr 1
 unfold xM nC
 rw [any_map,← QX (l:=p.aj)]
 congr 1
include hp ho hN in
theorem X0 {i:Nat} (hi:i<p.aj.length) {s:Str}:mr N (toR p A) s (i:Int)=some (!(nC p A (fun z=>decide (z.Kind=1)&&decide (z.Space=s) && !decide (z.Name=p.aj[i]!.Name))).isEmpty):=by
 rw [QZ hp hN]
 congr 1
 unfold nC
 rw [any_map,← QX (l:=p.aj),Bool.eq_iff_iff,List.any_eq_true,List.any_eq_true]
 have e:∀ j,j ∈ List.range p.aj.length→decide ((j:Int)=(i:Int))=decide (p.aj[j]!.Name=p.aj[i]!.Name):=fun j hj=>by
  rw [List.mem_range] at hj
  exact decide_eq_decide.2 ⟨fun h=>by rw [show j=i by omega],fun h=>by rw [ho.pd j i hj hi h]⟩
 constructor
 ·rintro ⟨j,hj,h⟩
  refine ⟨j,hj,?_⟩
  rw [e j hj] at h
  simp only [Bool.and_eq_true] at h ⊢
  exact ⟨h.2.1,h.2.2,h.1⟩
 ·rintro ⟨j,hj,h⟩
  refine ⟨j,hj,?_⟩
  rw [e j hj]
  simp only [Bool.and_eq_true] at h ⊢
  exact ⟨h.2.2,h.1,h.2.1⟩
theorem VZ {op st:Int} {l:List Int} (h0:0≤op) (h12:op<12) (h:xN op=some l):yN N op st=some (l.contains st):=by
 rcases GH h0 h12 with e | e | e | e | e | e | e | e | e | e | e | e <;> subst e <;> first | (cases h;done) | (cases h;unfold yN;simp only [iW,Int.reduceEq,decide_true,decide_false,lQ,lT];congr 1;rw [Bool.eq_iff_iff];simp [or_assoc])
def ZU (p:GPermitPlan) (A:AO) (sp s:Str):ah:=bif decide (stA A s=2)&&(!decide ((sH p s).Kind=5)&&decide (kY p (sH p s).Space sp≤1)) then { A.es s with state:=3 } else A.es s
def ZV (p:GPermitPlan) (A:AO) (sp:Str):AO:={ A with es:=fun s=>bif mX p s&&decide (stA A s=2)&&(!decide ((sH p s).Kind=5)&&decide (kY p (sH p s).Space sp≤1)) then { A.es s with state:=3 } else A.es s }
theorem X3 {α:Type} {l:List α} {g:α→Bool}:decide (Il g l<0) = !l.any g:=FU
include hp ho hN in
theorem Q5 {x:GEvent} (e:x.Op=7∨x.Op=10):iP N (toR p A) x=some (toR p (wL p A x).1,⟨(wL p A x).2.2,(wL p A x).2.1⟩):=by
  have hs:=hp.s
  have hm:=hp.m
  unfold iP
  rcases e with e | e
  · have hR:wL p A x=Uu p A x:=by
      unfold wL xN wM;simp only [e,Int.reduceEq,if_false,if_true]
    rw [hR]
    unfold Uu
    simp only [e,iW,Int.reduceEq,decide_true,decide_false,lQ,lT,Bool.or_self,Bool.false_and,bS]
    show ((mD N p x.Space).bind fun v10=>_)=_
    rw [zh (by omega) hN,bS,bW,X3]
    show (bif !xw p x.Space then _ else _)=_
    cases hh:xw p x.Space with
    | false=>rfl
    | true =>
      obtain ⟨i,hi,e1,e2⟩:=ixS hh
      have hn:p.bM[i]!.Name=x.Space:=by rw [e2];exact (Le hh).2
      simp only [Bool.not_true,lT,bW,uf]
      cases (decide (x.oz<0)||decide (1000<x.oz)||decide (x.GY<0)||decide (1000<x.GY)) with
      | true=>rfl
      | false =>
        rw [lT,lT,e1]
        show ((idx (NZ p fun s=>Kt (A.ts s)) (i:Int)).bind fun v13=>_)=_
        rw [ZK hi,bS,Int.toNat_natCast]
        show some (({ toR p A with Tests:=(NZ p fun s=>Kt (A.ts s)).set i (⟨true,A.now,x.oz,x.GY⟩:dZ) }:ai),(⟨0,[]⟩:bf))=some (toR p { A with ts:=fun s=>bif decide (s=x.Space) then some ⟨A.now,x.oz,x.GY⟩ else A.ts s },⟨0,[]⟩)
        rw [jQf ho hi,hn]
        congr 2
        show (⟨p,A.now,_,_,_,_,_⟩:ai)=⟨p,A.now,_,_,_,_,_⟩
        congr 1
        refine XW fun s _=>?_
        show (bif decide (s.Name=x.Space) then _ else Kt (A.ts s.Name))=Kt (bif decide (s.Name=x.Space) then some ⟨A.now,x.oz,x.GY⟩ else A.ts s.Name)
        cases decide (s.Name=x.Space) <;> rfl
  · have hR:wL p A x=Jb p A x:=by
      unfold wL xN wM;simp only [e,Int.reduceEq,if_false,if_true]
    rw [hR]
    unfold Jb
    simp only [e,iW,Int.reduceEq,decide_true,decide_false,lQ,lT,Bool.or_self,Bool.false_and,bS]
    show ((mD N p x.Space).bind fun v10=>_)=_
    rw [zh (by omega) hN,bS,bW,X3]
    show (bif !xw p x.Space then _ else _)=_
    cases hh:xw p x.Space with
    | false=>rfl
    | true =>
      simp only [Bool.not_true,lT]
      have key:=CJ (N:=N) (n:=p.aj.length) (f:=jm N (toR p A) x) (fun i=>((i:Int),sO p (stA (CG A p (ZU p A x.Space) i)))) (sO p (stA (CG A p (ZU p A x.Space) p.aj.length))) (fun i hi=>?_) ?_ (by omega)
      · rw [PE, SB, show ((0 : Nat) : Int) = 0 from rfl] at key
        have key2:dU (jm N (toR p A) x) N (0,sO p (stA A))=some (sO p (stA (ZV p A x.Space))):=key.trans (congrArg some (zZ fun y hy=>by
          show (ZU p A x.Space y.Name).state=(bif mX p y.Name&&decide (stA A y.Name=2)&&(!decide ((sH p y.Name).Kind=5)&&decide (kY p (sH p y.Name).Space x.Space≤1)) then ({ A.es y.Name with state:=3 }:ah) else A.es y.Name).state
          rw [zM.2 ⟨y,hy,rfl⟩,Bool.true_and];rfl))
        show ((dU (jm N (toR p A) x) N (0,sO p (stA A))).bind fun o51=>_)=_
        rw [key2,bS]
        have h1:∀ {γ:Type} (f:ah→γ),(∀ e k,f { e with state:=k }=f e)→∀ n,f ((ZV p A x.Space).es n)=f (A.es n):=fun f hf n=>by
          show f (bif mX p n&&decide (stA A n=2)&&(!decide ((sH p n).Kind=5)&&decide (kY p (sH p n).Space x.Space≤1)) then { A.es n with state:=3 } else A.es n)=_
          cases (mX p n&&decide (stA A n=2)&&(!decide ((sH p n).Kind=5)&&decide (kY p (sH p n).Space x.Space≤1)))
          · rfl
          · exact hf _ _
        show some (({ toR p A with cO:=sO p (stA (ZV p A x.Space)) }:ai),(⟨0,[]⟩:bf))=some (toR p (ZV p A x.Space),⟨0,[]⟩)
        rw [Sv (A:=A) (A':=ZV p A x.Space) rfl rfl rfl (h1 (fun e=>e.zS) fun _ _=>rfl) (h1 (fun e=>e.yQ) fun _ _=>rfl)]
      · have hx:=rH hi
        have hsp:xw p p.aj[i]!.Space=true:=(ho.pk _ hx).2.2.2.2
        unfold jm
        simp only []
        rw [sU,bW,dT (by omega),lQ]
        show ((idx p.aj (i:Int)).bind fun v45=>_)=_
        rw [zL hi,bS,Bv hi,Sz ho hi,bS,show mG N (toR p A).P p.aj[i]!.Space x.Space=some (kY p p.aj[i]!.Space x.Space) from Bz hp hsp hh hN,qx (by omega),Int.toNat_natCast]
        simp only [iW,qN,wK,bS]
        have hE:∀ c,(decide (stA A p.aj[i]!.Name=2)&&(!decide (p.aj[i]!.Kind=5)&&decide (kY p p.aj[i]!.Space x.Space≤1)))=c→(ZU p A x.Space p.aj[i]!.Name).state=bif c then 3 else stA A p.aj[i]!.Name:=fun c hc=>by
          unfold ZU
          rw [ho.FT hx,hc]
          cases c <;> rfl
        cases h2:decide (stA A p.aj[i]!.Name=2) with
        | false =>
          simp only [Bool.false_and,lT,bS]
          rw [EL ho hi (hE false (by rw [h2];rfl)).symm]
        | true =>
          cases h5:decide (p.aj[i]!.Kind=5) with
          | true =>
            simp only [Bool.not_true,Bool.and_false,Bool.false_and,lT,bS]
            rw [EL ho hi (hE false (by rw [h2,h5];rfl)).symm]
          | false =>
            cases hd:decide (kY p p.aj[i]!.Space x.Space≤1) with
            | false =>
              simp only [Bool.not_false,Bool.and_true,Bool.true_and,lQ,lT,bS,hd]
              rw [EL ho hi (hE false (by rw [h2,h5,hd];rfl)).symm]
            | true =>
              simp only [Bool.not_false,Bool.and_true,Bool.true_and,lQ,bS,hd]
              rw [PD (v:=3) ho hi (hE true (by rw [h2,h5,hd];rfl)).symm]
      · unfold jm
        simp only []
        rw [sU,bW,dF (by omega),lT]
end
end Go.KB
namespace Go.KB
set_option linter.unusedVariables false
theorem Uw : ∀ (x y : Str), Op.bytesLess x y = decide (x < y)
 | [],[]=>by simp [Op.bytesLess]
 | _ :: _,[]=>by simp [Op.bytesLess]
 | [],_ :: _=>by simp [Op.bytesLess]
 | a :: x,b :: y=>by
  rw [Op.bytesLess,Uw x y]
  simp only [List.cons_lt_cons_iff]
  by_cases h1:a<b <;> by_cases h2:a=b <;> by_cases h3:x<y <;> simp [h1,h2,h3]
theorem Ux (a b:Str):zK .lss a b=decide (a<b):=Uw a b
def JK (l:List (Str×Str)) (n:Str):Nat:=l.findIdx fun q=>!decide (q.1<n)
theorem V3 {l:List (Str×Str)} {n:Str}:JK l n≤l.length:=List.findIdx_le_length
theorem ZW {n s:Str}:∀ {l:List (Str×Str)},JL l n s=l.take (JK l n) ++ (n,s) :: l.drop (JK l n)
 | []=>rfl
 | q :: r=>by
  unfold JL JK
  rw [List.findIdx_cons]
  cases decide (q.1<n) with
  | false=>rfl
  | true =>
   simp only [Bool.not_true,lQ,lT]
   rw [List.take_succ_cons,List.drop_succ_cons,List.cons_append]
   exact congrArg _ ZW
theorem ZX {n : Str} : ∀ {l : List (Str × Str)}, l.Pairwise (fun a b => a.1 < b.1) → l.any (fun q => decide (q.1 = n)) = true → l.filter (fun q => !decide (q.1 = n)) = l.take (l.findIdx fun q => decide (q.1 = n)) ++ l.drop ((l.findIdx fun q => decide (q.1 = n)) + 1)
  | [],_,h=>by cases h
  | q :: r,hp,h=>by
    rw [List.findIdx_cons,List.filter_cons]
    by_cases e:q.1=n
    · rw [dT e]
      simp only [Bool.not_true,Bool.false_eq_true,if_false,lQ,Nat.zero_add,List.take_zero,List.nil_append,List.drop_succ_cons,List.drop_zero]
      refine List.filter_eq_self.2 fun a ha=>?_
      have:=(List.pairwise_cons.1 hp).1 a ha
      rw [e] at this
      rw [dF (fun h2=>by rw [h2] at this;exact List.lt_irrefl _ this)];rfl
    · rw [dF e]
      simp only [Bool.not_false,if_true,lT,List.take_succ_cons,List.drop_succ_cons,List.cons_append]
      rw [ZX (List.pairwise_cons.1 hp).2 (by rw [List.any_cons,dF e,Bool.false_or] at h;exact h)]
section
variable {N:Nat} {p:GPermitPlan} {A:AO} (hp:EP p) (ho:Ee p) (hN:1000000≤N) (b:I5 A)
include hN b in
theorem X4 (hpp:A.pp.Pairwise (fun a b=>a.1<b.1)) {x:GEvent} (e:x.Op=9):iP N (toR p A) x=some (toR p (wL p A x).1,⟨(wL p A x).2.2,(wL p A x).2.1⟩):=by
 have hlim:lim ≥ 10000000:=by decide
 have hb:=b.pl
 unfold iP
 have hR:wL p A x=Jc A x:=by
  unfold wL xN wM;simp only [e,Int.reduceEq,if_false,if_true]
 rw [hR]
 unfold Jc
 simp only [e,iW,Int.reduceEq,decide_true,decide_false,lQ,lT,Bool.false_or,Bool.true_and]
 rw [A7 (by omega),bS]
 cases lZ x.Person with
 | false=>rfl
 | true =>
  simp only [Bool.not_true,lT]
  rw [QY hN b,bS,bW,X3]
  show (bif !Aa A x.Person then _ else _)=_
  cases hi:Aa A x.Person with
  | false=>rfl
  | true =>
   simp only [Bool.not_true,lT]
   have hj:A.pp.findIdx (fun q=>decide (q.1=x.Person))<A.pp.length:=List.findIdx_lt_length.2 (by
    unfold Aa at hi;rw [List.any_eq_true] at hi;exact hi)
   have hout:=ZX hpp hi
   rw [CS hj]
   generalize hk:A.pp.findIdx (fun q=>decide (q.1=x.Person))=k at hj hout
   rw [qx (by omega)]
   show ((NF (A.pp.map Ku) 0 (k:Int)).bind fun v5=>(app ([]:(List fD)) v5).bind fun v6=>(NF (A.pp.map Ku) ((k+1:Nat):Int) (List.length (A.pp.map Ku):Int)).bind fun v7=>(app v6 v7).bind fun v8=>some (({ toR p A with oC:=v8 }:ai),(⟨0,[]⟩:bf)))=_
   have e0:NF (A.pp.map Ku) 0 (k:Int)=some ((A.pp.map Ku).take k):=MP (a:=0) (Nat.zero_le _) (by rw [List.length_map];omega)
   have e1:NF (A.pp.map Ku) ((k+1:Nat):Int) (List.length (A.pp.map Ku):Int)=some ((A.pp.map Ku).drop (k+1)):=by
    rw [MP (by rw [List.length_map];omega) (Nat.le_refl _),List.take_length]
   rw [e0,bS,Ah (by simp;omega),bS,e1,bS,List.nil_append,Ah (by simp;omega),bS,← List.map_take,← List.map_drop,← List.map_append,← hout]
   rfl
include hp ho hN b in
theorem X5 (hpp:A.pp.Pairwise (fun a b=>a.1<b.1)) {x:GEvent} (e:x.Op=8):iP N (toR p A) x=some (toR p (wL p A x).1,⟨(wL p A x).2.2,(wL p A x).2.1⟩):=by
  have hlim:lim ≥ 10000000:=by decide
  have hb:=b.pl
  have hs:=hp.s
  have hm:=hp.m
  unfold iP
  have hR:wL p A x=Jd p A x:=by
    unfold wL xN wM;simp only [e,Int.reduceEq,if_false,if_true]
  rw [hR]
  unfold Jd
  simp only [e,iW,Int.reduceEq,decide_true,decide_false,lQ,lT,Bool.true_or,Bool.true_and]
  rw [A7 (by omega),bS]
  cases lZ x.Person with
  | false=>rfl
  | true =>
    simp only [Bool.not_true,lT]
    show ((mD N p x.Space).bind fun v10=>_)=_
    rw [zh (by omega) hN,bS,bW,X3]
    show (bif !xw p x.Space then _ else _)=_
    cases hh:xw p x.Space with
    | false=>rfl
    | true =>
      simp only [Bool.not_true,lT]
      obtain ⟨i,hi,e1,e2⟩:=ixS hh
      have hlt:=X3 (l:=A.pp) (g:=fun q=>decide (q.1=x.Person))
      rw [QY hN b,bS,BA,show decide (Il (fun q=>decide (q.1=x.Person)) A.pp ≥ 0)=Aa A x.Person from by
        unfold Aa
        cases hy:A.pp.any (fun q=>decide (q.1=x.Person)) with
        | true=>rw [hy] at hlt;simp at hlt;exact dT (by omega)
        | false=>rw [hy] at hlt;simp at hlt;exact dF (by omega)]
      cases Aa A x.Person with
      | true=>rfl
      | false =>
        rw [lT,lT,e1]
        show ((idx p.bM (i:Int)).bind fun v17=>_)=_
        rw [zL hi,bS,e2,Ut hp hN]
        have hc:(bif (y9 p x.Space).dH then some (xM p A x.Space) else some false)=some ((y9 p x.Space).dH&&xM p A x.Space):=by cases (y9 p x.Space).dH <;> rfl
        rw [hc,bS,show ((y9 p x.Space).dH && !((y9 p x.Space).dH&&xM p A x.Space))=((y9 p x.Space).dH && !xM p A x.Space) from by cases (y9 p x.Space).dH <;> rfl]
        cases ((y9 p x.Space).dH && !xM p A x.Space) with
        | true=>rfl
        | false =>
          rw [lT,lT]
          rw [CP (f:=lK N (toR p A) x) p.aj [] (fun y=>decide (stA A y.Name=2)&&(decide (y.Kind=3)&&decide (kY p y.Space x.Space≤1))) (fun y=>y.Name) (fun a i=>(a,i)) (fun a=>a) (fun j hj acc hacc=>?_) (fun acc=>?_) (by omega),bS,gt0]
          · show (bif !(nC p A (fun y => decide (y.Kind = 3) && decide (kY p y.Space x.Space ≤ 1))).isEmpty then some (toR p A, (⟨17, nC p A (fun y => decide (y.Kind = 3) && decide (kY p y.Space x.Space ≤ 1))⟩ : bf)) else _) = _
            cases (nC p A (fun y=>decide (y.Kind=3)&&decide (kY p y.Space x.Space≤1))).isEmpty with
            | false=>rfl
            | true =>
              simp only [Bool.not_true,lT]
              have hl1:dU (lM N (toR p A) x) N 0=some (JK A.pp x.Person:Int):=by
                refine Kw (n:=JK A.pp x.Person) (fun _=>(JK A.pp x.Person:Int)) (fun j hj=>.inl ⟨?_,rfl⟩) ?_ (by have:=V3 (l:=A.pp) (n:=x.Person);omega)
                · have hjl:j<A.pp.length:=Nat.lt_of_lt_of_le hj V3
                  have hn:=List.not_of_lt_findIdx (p:=fun q:Str×Str=>!decide (q.1<x.Person)) (xs:=A.pp) (i:=j) hj
                  unfold lM
                  show ((bif (aF .lss (j:Int) (List.length (A.pp.map Ku):Int)) then (idx (A.pp.map Ku) (j:Int)) else some (⟨[],[]⟩:fD)).bind fun v30=>bif ((aF .lss (j:Int) (List.length (A.pp.map Ku):Int))&&(zK .lss v30.Name x.Person)) then (some (Sum.inl (IntKind.i64.wrap ((j:Int)+1)))) else (some (Sum.inr (j:Int))))=_
                  rw [List.length_map,bW,dT (by omega),lQ,jd (by rw [List.length_map];exact hjl),List.getElem_map,bS,Ux,qx (by omega)]
                  show (bif true&&decide (A.pp[j].1<x.Person) then _ else _)=_
                  have hn':decide (A.pp[j].1<x.Person)=true:=by simpa using hn
                  rw [hn'];rfl
                · unfold lM
                  show ((bif (aF .lss (JK A.pp x.Person:Int) (List.length (A.pp.map Ku):Int)) then (idx (A.pp.map Ku) (JK A.pp x.Person:Int)) else some (⟨[],[]⟩:fD)).bind fun v30=>bif ((aF .lss (JK A.pp x.Person:Int) (List.length (A.pp.map Ku):Int))&&(zK .lss v30.Name x.Person)) then (some (Sum.inl (IntKind.i64.wrap ((JK A.pp x.Person:Int)+1)))) else (some (Sum.inr (JK A.pp x.Person:Int))))=_
                  rw [List.length_map,bW]
                  by_cases hl:JK A.pp x.Person<A.pp.length
                  · rw [dT (by omega), lQ, jd (by rw [List.length_map]; exact hl), List.getElem_map, bS, Ux]
                    have hf:=List.findIdx_getElem (p:=fun q:Str×Str=>!decide (q.1<x.Person)) (xs:=A.pp) (w:=hl)
                    show (bif true&&decide (A.pp[JK A.pp x.Person].1<x.Person) then _ else _)=_
                    have hf':decide (A.pp[JK A.pp x.Person].1<x.Person)=false:=by rw [Bool.not_eq_true'] at hf;exact hf
                    rw [hf'];rfl
                  · rw [dF (by omega)];rfl
              rw [hl1,bS]
              have hk:=V3 (l:=A.pp) (n:=x.Person)
              have hins:=ZW (l:=A.pp) (n:=x.Person) (s:=x.Space)
              generalize JK A.pp x.Person=k at hk hins
              show ((NF (A.pp.map Ku) 0 (k:Int)).bind fun v34=>(app ([]:(List fD)) v34).bind fun v35=>(app v35 [(⟨x.Person,x.Space⟩:fD)]).bind fun v36=>(NF (A.pp.map Ku) (k:Int) (List.length (A.pp.map Ku):Int)).bind fun v37=>(app v36 v37).bind fun v38=>some (({ toR p A with oC:=v38 }:ai),(⟨0,[]⟩:bf)))=_
              have s0:NF (A.pp.map Ku) 0 (k:Int)=some ((A.pp.map Ku).take k):=MP (a:=0) (Nat.zero_le _) (by rw [List.length_map];omega)
              have s1:NF (A.pp.map Ku) (k:Int) (List.length (A.pp.map Ku):Int)=some ((A.pp.map Ku).drop k):=by
                rw [MP (by rw [List.length_map];omega) (Nat.le_refl _),List.take_length]
              rw [s0,bS,Ah (by simp;omega),bS,Ah (by simp;omega),bS,s1,bS,Ah (by simp;omega),bS]
              show _=some (toR p { A with pp:=JL A.pp x.Person x.Space },(⟨0,[]⟩:bf))
              rw [hins]
              congr 2
              show (⟨p,A.now,_,_,_,_,_⟩:ai)=⟨p,A.now,_,_,_,_,_⟩
              congr 1
              rw [List.map_append,List.map_cons,List.map_take,List.map_drop,List.nil_append,List.append_assoc];rfl
          · simp only [List.length_nil] at hacc
            unfold lK
            simp only []
            show (bif (aF .lss (j:Int) (List.length (sO p (stA A)):Int)) then ((idx p.aj (j:Int)).bind fun v21=>(idx (sO p (stA A)) (j:Int)).bind fun v22=>(bif ((aF .eql v22 2)&&(aF .eql v21.Kind 3)) then (mG N p v21.Space x.Space) else some 0).bind fun v23=>bif (((aF .eql v22 2)&&(aF .eql v21.Kind 3))&&(aF .leq v23 1)) then ((app acc [v21.Name]).bind fun v24=>some (Sum.inl (v24,(IntKind.i64.wrap ((j:Int)+1))))) else (some (Sum.inl (acc,(IntKind.i64.wrap ((j:Int)+1)))))) else (some (Sum.inr acc)))=_
            have hx:=rH hj
            rw [sU,bW,dT (by omega),lQ,zL hj,bS,Bv hj,bS,Bz hp (ho.pk _ hx).2.2.2.2 hh hN,qx (by omega),← CB hj]
            simp only [iW,wK]
            cases decide (stA A p.aj[j]!.Name=2) with
            | false=>rfl
            | true =>
              cases decide (p.aj[j]!.Kind=3) with
              | false=>rfl
              | true =>
                simp only [Bool.true_and,lQ,bS]
                cases decide (kY p p.aj[j]!.Space x.Space≤1) with
                | false=>rfl
                | true=>simp only [lQ];rw [Ah (by simp only [List.length_singleton];omega)];rfl
          · unfold lK
            simp only []
            show (bif (aF .lss (p.aj.length:Int) (List.length (sO p (stA A)):Int)) then _ else _)=_
            rw [sU,bW,dF (by omega),lT]
end
end Go.KB
namespace Go.KB
set_option linter.unusedVariables false
section
variable {N:Nat} {p:GPermitPlan} {A:AO} (hp:EP p) (ho:Ee p) (hN:1000000≤N) (b:I5 A)
include hp hN in
theorem V4 {y:aH} {R:bf}:dU (ni N (toR p A) ((⟨(⟨[],[],[],0⟩:GPermitPlan),0,[],[],[],[],[]⟩:ai),R,sO p (stA A),sO p (fun n=>(A.es n).zS),sO p (fun n=>(A.es n).yQ),NZ p (fun s=>Kt (A.ts s))) y) N ([],0)=some (nC p A (fun z=>EQ z.Locks y.Name)):=by
 have hm:=hp.m
 have hlim:lim ≥ 10000000:=by decide
 rw [CP (f:=ni N (toR p A) ((⟨(⟨[],[],[],0⟩:GPermitPlan),0,[],[],[],[],[]⟩:ai),R,sO p (stA A),sO p (fun n=>(A.es n).zS),sO p (fun n=>(A.es n).yQ),NZ p (fun s=>Kt (A.ts s))) y) p.aj [] (fun z=>decide (stA A z.Name=2)&&EQ z.Locks y.Name) (fun z=>z.Name) (fun a i=>(a,i)) (fun a=>a) (fun j hj acc hacc=>?_) (fun acc=>?_) (by omega)]
 ·rfl
 ·simp only [List.length_nil] at hacc
  have hl:=hp.l _ (rH hj)
  unfold ni
  simp only []
  rw [sU,bW,dT (by omega),lQ,qx (by omega),← CB hj]
  have inner:dU (lX N (toR p A) ((⟨(⟨[],[],[],0⟩:GPermitPlan),0,[],[],[],[],[]⟩:ai),R,sO p (stA A),sO p (fun n=>(A.es n).zS),sO p (fun n=>(A.es n).yQ),NZ p (fun s=>Kt (A.ts s))) y (acc,(j:Int))) N (acc,0)=some (bif decide (stA A p.aj[j]!.Name=2)&&EQ p.aj[j]!.Locks y.Name then acc ++ [p.aj[j]!.Name] else acc):=by
   have key:∀ k i,i+k=p.aj[j]!.Locks.length→∀ M,k<M→dU (lX N (toR p A) ((⟨(⟨[],[],[],0⟩:GPermitPlan),0,[],[],[],[],[]⟩:ai),R,sO p (stA A),sO p (fun n=>(A.es n).zS),sO p (fun n=>(A.es n).yQ),NZ p (fun s=>Kt (A.ts s))) y (acc,(j:Int))) M (acc,(i:Int))=some (bif decide (stA A p.aj[j]!.Name=2)&&EQ (p.aj[j]!.Locks.drop i) y.Name then acc ++ [p.aj[j]!.Name] else acc):=by
    intro k
    induction k with
    | zero =>
     intro i hi M hM
     obtain ⟨M,rfl⟩:∃ m,M=m+1:=⟨M - 1,by omega⟩
     have e:lX N (toR p A) ((⟨(⟨[],[],[],0⟩:GPermitPlan),0,[],[],[],[],[]⟩:ai),R,sO p (stA A),sO p (fun n=>(A.es n).zS),sO p (fun n=>(A.es n).yQ),NZ p (fun s=>Kt (A.ts s))) y (acc,(j:Int)) (acc,(i:Int))=some (.inr acc):=by
      unfold lX
      show ((idx p.aj (j:Int)).bind fun v43=>_)=_
      rw [zL hj,bS]
      simp only []
      rw [bW,dF (by omega),lT]
     simp only [dU,e]
     rw [List.drop_eq_nil_of_le (by omega),show EQ [] y.Name=false from rfl,Bool.and_false];rfl
    | succ k ih =>
     intro i hi M hM
     obtain ⟨M,rfl⟩:∃ m,M=m+1:=⟨M - 1,by omega⟩
     have hil:i<p.aj[j]!.Locks.length:=by omega
     have e:lX N (toR p A) ((⟨(⟨[],[],[],0⟩:GPermitPlan),0,[],[],[],[],[]⟩:ai),R,sO p (stA A),sO p (fun n=>(A.es n).zS),sO p (fun n=>(A.es n).yQ),NZ p (fun s=>Kt (A.ts s))) y (acc,(j:Int)) (acc,(i:Int))=bif decide (stA A p.aj[j]!.Name=2)&&decide (p.aj[j]!.Locks[i]=y.Name) then some (.inr (acc ++ [p.aj[j]!.Name])) else some (.inl (acc,((i+1:Nat):Int))):=by
      unfold lX
      show ((idx p.aj (j:Int)).bind fun v43=>bif (aF .lss (i:Int) (List.length v43.Locks:Int)) then ((idx (sO p (stA A)) (j:Int)).bind fun v44=>(bif (aF .eql v44 2) then (idx p.aj (j:Int)) else some (⟨[],0,[],0,0,[]⟩:aH)).bind fun v45=>(bif (aF .eql v44 2) then (idx v45.Locks (i:Int)) else some []).bind fun v46=>bif ((aF .eql v44 2)&&(zK .eql v46 y.Name)) then ((idx p.aj (j:Int)).bind fun v47=>(app acc [v47.Name]).bind fun v48=>some (Sum.inr v48)) else (some (Sum.inl (acc,(IntKind.i64.wrap ((i:Int)+1)))))) else (some (Sum.inr acc)))=_
      rw [zL hj,bS,bW,dT (by omega),lQ,Bv hj,bS,iW,qx (by omega)]
      simp only [rJ]
      cases decide (stA A p.aj[j]!.Name=2) with
      | false=>rfl
      | true =>
       simp only [lQ,bS,Bool.true_and]
       rw [jd hil,bS]
       cases decide (p.aj[j]!.Locks[i]=y.Name) with
       | false=>rfl
       | true=>simp only [lQ];rw [Ah (by simp only [List.length_singleton];omega)];rfl
     simp only [dU,e]
     have hd:EQ (p.aj[j]!.Locks.drop i) y.Name=(decide (p.aj[j]!.Locks[i]=y.Name)||EQ (p.aj[j]!.Locks.drop (i+1)) y.Name):=by
      rw [List.drop_eq_getElem_cons hil]
      unfold EQ
      rw [List.any_cons,show decide (y.Name=p.aj[j]!.Locks[i])=decide (p.aj[j]!.Locks[i]=y.Name) from decide_eq_decide.2 ⟨Eq.symm,Eq.symm⟩]
     rw [hd]
     cases h2:decide (stA A p.aj[j]!.Name=2) with
     | false =>
      have:=ih (i+1) (by omega) M (by omega)
      rw [h2] at this
      simpa using this
     | true =>
      cases hn:decide (p.aj[j]!.Locks[i]=y.Name) with
      | true=>rfl
      | false =>
       have:=ih (i+1) (by omega) M (by omega)
       rw [h2] at this
       simpa using this
   have:=key _ 0 (Nat.zero_add _) N (by omega)
   rw [List.drop_zero] at this
   exact this
  rw [inner,bS]
 ·unfold ni
  simp only []
  rw [sU,bW,dF (by omega),lT]
include hp ho hN b in
theorem ZY (ps:VR p A) (hpp:A.pp.Pairwise (fun a b=>a.1<b.1)) {x:GEvent} (h0:0≤x.Op) (h12:x.Op<12):uN N (toR p A) x=some (toR p (wL p A x).1,⟨(wL p A x).2.2,(wL p A x).2.1⟩):=by
  have hm:=hp.m
  have hs:=hp.s
  unfold uN
  rw [I9 hp b,bS]
  cases hst:xN x.Op with
  | none =>
    have h4:x.Op=0∨x.Op=7∨x.Op=8∨x.Op=9∨x.Op=10:=by
      rcases GH h0 h12 with e | e | e | e | e | e | e | e | e | e | e | e <;> first | omega | (rw [e] at hst;cases hst)
    by_cases e0:x.Op=0
    · have hR:wL p A x=BB A:=by
        unfold wL;rw [hst];unfold wM;rw [if_pos e0]
      rw [hR,iW,dT e0];rfl
    · have hin:iP N (toR p A) x=some (toR p (wL p A x).1,⟨(wL p A x).2.2,(wL p A x).2.1⟩):=by
        rcases h4 with e | e | e | e | e
        · exact absurd e e0
        · exact Q5 hp ho hN (.inl e)
        · exact X5 hp ho hN b hpp e
        · exact X4 hN b hpp e
        · exact Q5 hp ho hN (.inr e)
      have hc:((bif (aF .eql x.Op 7) then (some (aF .eql x.Op 7)) else (bif (aF .eql x.Op 8) then (some (aF .eql x.Op 8)) else (bif (aF .eql x.Op 9) then (some (aF .eql x.Op 9)) else (some (aF .eql x.Op 10))))):Option Bool)=some true:=by
        simp only [iW]
        rcases h4 with e | e | e | e | e
        · exact absurd e e0
        all_goals rw [e];rfl
      rw [hc,bS,lQ,hin,iW,dF e0];rfl
  | some l =>
    have h7:x.Op=1∨x.Op=2∨x.Op=3∨x.Op=4∨x.Op=5∨x.Op=6∨x.Op=11:=by
      rcases GH h0 h12 with e | e | e | e | e | e | e | e | e | e | e | e <;> first | omega | (rw [e] at hst;cases hst)
    have hc:((bif (aF .eql x.Op 7) then (some (aF .eql x.Op 7)) else (bif (aF .eql x.Op 8) then (some (aF .eql x.Op 8)) else (bif (aF .eql x.Op 9) then (some (aF .eql x.Op 9)) else (some (aF .eql x.Op 10))))):Option Bool)=some false:=by
      simp only [iW]
      rw [dF (by omega),dF (by omega),dF (by omega),dF (by omega)];rfl
    rw [hc,bS,lT,iW,dF (by omega),lT,bS]
    simp only [Sum.elim_inl]
    show ((qH N p x.Name).bind fun v19=>_)=_
    rw [H6 (by omega) hN,bS,bW,X3]
    show (bif !mX p x.Name then _ else _)=_
    have hR:wL p A x=bif !mX p x.Name then wO A 6 [] else bif !l.contains (stA A x.Name) then wO A 18 [] else wM p A x:=by unfold wL;rw [hst]
    rw [hR]
    cases hh:mX p x.Name with
    | false=>rfl
    | true =>
      obtain ⟨i,hi,e1,e2⟩:=ixP hh
      have hx:=rH hi
      have hn:p.aj[i]!.Name=x.Name:=by rw [e2];exact (Ap hh).2
      have hsp:xw p p.aj[i]!.Space=true:=(ho.pk _ hx).2.2.2.2
      simp only [Bool.not_true,lT]
      rw [e1]
      show ((idx (sO p (stA A)) (i:Int)).bind fun v21=>_)=_
      rw [Bv hi,bS,hn,VZ h0 h12 hst,bS]
      cases l.contains (stA A x.Name) with
      | false=>rfl
      | true =>
        simp only [Bool.not_true,lT]
        have hP:idx (toR p A).P.aj (i:Int)=some p.aj[i]!:=zL hi
        have hS:idx (toR p A).cO (i:Int)=some (stA A x.Name):=by rw [← hn];exact Bv hi
        have hB:idx (toR p A).By (i:Int)=some (A.es x.Name).zS:=by rw [← hn];exact Bv (F:=fun n=>(A.es n).zS) hi
        have hT:idx (toR p A).To (i:Int)=some (A.es x.Name).yQ:=by rw [← hn];exact Bv (F:=fun n=>(A.es n).yQ) hi
        have kS:(sO p (stA A)).set i (stA A x.Name)=sO p (stA A):=by rw [← hn];exact Ja ho hi
        have kB:(sO p fun n=>(A.es n).zS).set i (A.es x.Name).zS=sO p fun n=>(A.es n).zS:=by rw [← hn];exact Ja (F:=fun n=>(A.es n).zS) ho hi
        have kT:(sO p fun n=>(A.es n).yQ).set i (A.es x.Name).yQ=sO p fun n=>(A.es n).yQ:=by rw [← hn];exact Ja (F:=fun n=>(A.es n).yQ) ho hi
        have hup:∀ e:ah,toR p (VY A x.Name e)={ toR p A with cO:=(sO p (stA A)).set i e.state,By:=(sO p fun n=>(A.es n).zS).set i e.zS,To:=(sO p fun n=>(A.es n).yQ).set i e.yQ }:=fun e=>by rw [← hn];exact ZT ho hi
        have hbe:∀ k,toR p (Qb A x.Name k)={ toR p A with cO:=(sO p (stA A)).set i k }:=fun k=>by rw [← hn];exact toR_be ho hi
        have Z4:x.Op=2∨x.Op=4→((idx (toR p A).By (i:Int)).bind fun v32=>bif (zK .eql x.Person v32) then ((lH N 26).bind fun v33=>some (toR p A,v33)) else ((qc N (toR p A) (i:Int)).bind fun v34=>bif (aF .gtr (List.length v34:Int) 0) then ((idx v34 0).bind fun v35=>(idx v34 0).bind fun v36=>some (toR p A,(⟨v35.Err,v36.Names⟩:bf))) else ((idx (toR p A).cO (i:Int)).bind fun v37=>some (({ toR p A with cO:=(List.set (toR p A).cO (Int.toNat (i:Int)) 2) }:ai),(⟨0,[]⟩:bf)))))=some (toR p (bif decide (x.Person=(A.es x.Name).zS) then wO A 26 [] else match Gz p A (sH p x.Name) with | r :: _=>wO A r.Err r.Names | []=>BB (Qb A x.Name 2)).1,⟨(bif decide (x.Person=(A.es x.Name).zS) then wO A 26 [] else match Gz p A (sH p x.Name) with | r :: _=>wO A r.Err r.Names | []=>BB (Qb A x.Name 2)).2.2,(bif decide (x.Person=(A.es x.Name).zS) then wO A 26 [] else match Gz p A (sH p x.Name) with | r :: _=>wO A r.Err r.Names | []=>BB (Qb A x.Name 2)).2.1⟩):=fun _=>by
          rw [hB,bS,rJ,Ur hp ho hN b ps hi,bS,e2,hS,bS,Int.toNat_natCast]
          cases decide (x.Person=(A.es x.Name).zS) with
          | true=>rfl
          | false =>
            rw [lT,lT]
            cases Gz p A (sH p x.Name) with
            | nil =>
              show some (({ toR p A with cO:=(sO p (stA A)).set i 2 }:ai),(⟨0,[]⟩:bf))=some (toR p (Qb A x.Name 2),⟨0,[]⟩)
              rw [hbe]
            | cons r l =>
              rw [gt0];rfl
        rcases h7 with e | e | e | e | e | e | e
        · have hD : wM p A x = Dl A x := by unfold wM; rw [if_neg (by omega), if_pos e]
          rw [hD]
          unfold Dl
          simp only [e,iW,Int.reduceEq,decide_true,decide_false,lQ,lT,Bool.true_or,Bool.true_and,bS,hP,hS,hB,Int.toNat_natCast]
          rw [A7 (by omega),bS]
          cases lZ x.Person with
          | false=>rfl
          | true =>
            have:=hup { A.es x.Name with state:=1,zS:=x.Person }
            simp only [kT] at this
            show some _=some (toR p (VY A x.Name _),_)
            rw [this];rfl
        · have hD : wM p A x = Ai p A x := by unfold wM; rw [if_neg (by omega), if_neg (by omega), if_pos e]
          rw [hD]
          unfold Ai
          simp only [e,iW,Int.reduceEq,decide_true,decide_false,lQ,lT,Bool.true_or,Bool.or_true,Bool.true_and,bS,hP]
          rw [A7 (by omega),bS]
          cases lZ x.Person with
          | false=>rfl
          | true=>exact Z4 (.inl e)
        · have hD : wM p A x = BB (Qb A x.Name 3) := by unfold wM; rw [if_neg (by omega), if_neg (by omega), if_neg (by omega), if_pos e]
          rw [hD]
          simp only [e,iW,Int.reduceEq,decide_true,decide_false,lQ,lT,Bool.or_self,Bool.false_and,bS,hP,hS,Int.toNat_natCast]
          show some _=some (toR p (Qb A x.Name 3),_)
          rw [hbe];rfl
        · have hD : wM p A x = Ai p A x := by unfold wM; rw [if_neg (by omega), if_neg (by omega), if_neg (by omega), if_neg (by omega), if_pos e]
          rw [hD]
          unfold Ai
          simp only [e,iW,Int.reduceEq,decide_true,decide_false,lQ,lT,Bool.true_or,Bool.or_true,Bool.true_and,bS,hP]
          rw [A7 (by omega),bS]
          cases lZ x.Person with
          | false=>rfl
          | true=>exact Z4 (.inr e)
        · have hD : wM p A x = BD p A x := by unfold wM; rw [if_neg (by omega), if_neg (by omega), if_neg (by omega), if_neg (by omega), if_neg (by omega), if_pos e]
          have hF:BD p A x=(bif decide (p.aj[i]!.Kind=5) && !(nC p A (fun z=>EQ z.Locks p.aj[i]!.Name)).isEmpty then wO A 20 (nC p A (fun z=>EQ z.Locks p.aj[i]!.Name)) else
              bif decide (p.aj[i]!.Kind=1)&&decide (stA A x.Name=2)&&(y9 p p.aj[i]!.Space).dH&&(nC p A (fun z=>decide (z.Kind=1)&&decide (z.Space=p.aj[i]!.Space) && !decide (z.Name=p.aj[i]!.Name))).isEmpty && !(yV A (fun s=>decide (s=p.aj[i]!.Space))).isEmpty then wO A 21 (yV A (fun s=>decide (s=p.aj[i]!.Space))) else
              BB (Qb A x.Name 4)):=by
            unfold BD;simp only [];rw [← e2,hn]
          rw [hD,hF]
          simp only [e,iW,Int.reduceEq,decide_true,decide_false,lQ,lT,Bool.or_self,Bool.false_and,bS,hP,hS,Int.toNat_natCast]
          have hH:=V4 (A:=A) (N:=N) hp hN (y:=p.aj[i]!) (R:=⟨0,[]⟩)
          have hPe:nP N (toR p A) p.aj[i]!.Space 0=some (yV A (fun s=>decide (s=p.aj[i]!.Space))):=by
            rw [Py hp hN b ps hsp];simp only [near0]
          obtain ⟨s,hs1,f1,f2⟩:=ixS hsp
          have hSp:mD N p p.aj[i]!.Space=some (s:Int):=by rw [zh (by omega) hN,f1]
          have hSi:idx p.bM (s:Int)=some (y9 p p.aj[i]!.Space):=by rw [zL hs1,f2]
          have hEn:=X0 (A:=A) hp ho hN hi (s:=p.aj[i]!.Space)
          show ((dU (ni N (toR p A) ((⟨(⟨[],[],[],0⟩:GPermitPlan),0,[],[],[],[],[]⟩:ai),(⟨0,[]⟩:bf),sO p (stA A),sO p (fun n=>(A.es n).zS),sO p (fun n=>(A.es n).yQ),NZ p (fun s=>Kt (A.ts s))) p.aj[i]!) N ([],0)).bind fun o55=>_)=_
          rw [hH,bS]
          show (bif (decide (p.aj[i]!.Kind=5)&&aF .gtr ((nC p A (fun z=>EQ z.Locks p.aj[i]!.Name)).length:Int) 0) then some (toR p A,(⟨20,nC p A (fun z=>EQ z.Locks p.aj[i]!.Name)⟩:bf)) else ((nP N (toR p A) p.aj[i]!.Space 0).bind fun v57=>((bif decide (p.aj[i]!.Kind=1) then some (stA A x.Name) else some 0):Option Int).bind fun v58=>(bif (decide (p.aj[i]!.Kind=1)&&decide (v58=2)) then mD N p p.aj[i]!.Space else some 0).bind fun v59=>(bif (decide (p.aj[i]!.Kind=1)&&decide (v58=2)) then idx p.bM v59 else some (⟨[],false,[]⟩:dG)).bind fun v60=>(bif ((decide (p.aj[i]!.Kind=1)&&decide (v58=2))&&v60.dH) then mr N (toR p A) p.aj[i]!.Space (i:Int) else some false).bind fun v61=>bif (((((decide (p.aj[i]!.Kind=1)&&decide (v58=2))&&v60.dH) && !v61)&&aF .gtr (v57.length:Int) 0)) then some (toR p A,(⟨21,v57⟩:bf)) else some (({ toR p A with cO:=(sO p (stA A)).set i 4 }:ai),(⟨0,[]⟩:bf))))=_
          rw [gt0,hPe]
          simp only [bS,gt0,hEn]
          have hfin:some (({ toR p A with cO:=(sO p (stA A)).set i 4 }:ai),(⟨0,[]⟩:bf))=some (toR p (BB (Qb A x.Name 4)).1,⟨(BB (Qb A x.Name 4)).2.2,(BB (Qb A x.Name 4)).2.1⟩):=by
            show _=some (toR p (Qb A x.Name 4),_)
            rw [hbe];rfl
          rw [hfin]
          generalize (nC p A (fun z=>EQ z.Locks p.aj[i]!.Name))=hl
          generalize (nC p A (fun z=>decide (z.Kind=1)&&decide (z.Space=p.aj[i]!.Space) && !decide (z.Name=p.aj[i]!.Name))).isEmpty=b1
          generalize yV A (fun s=>decide (s=p.aj[i]!.Space))=pl
          cases (decide (p.aj[i]!.Kind=5) && !hl.isEmpty) with
          | true=>rfl
          | false =>
            rw [lT,lT]
            cases decide (p.aj[i]!.Kind=1) with
            | false=>rfl
            | true =>
              simp only [lQ,bS,Bool.true_and]
              cases decide (stA A x.Name=2) with
              | false=>rfl
              | true =>
                simp only [lQ,Bool.true_and]
                rw [hSp,bS,hSi,bS]
                cases (y9 p p.aj[i]!.Space).dH with
                | false=>rfl
                | true =>
                  simp only [lQ,bS,Bool.true_and,Bool.not_not]
                  cases b1 with
                  | false=>rfl
                  | true=>cases pl.isEmpty <;> rfl
        · have hD : wM p A x = BB (Qb A x.Name 5) := by unfold wM; rw [if_neg (by omega), if_neg (by omega), if_neg (by omega), if_neg (by omega), if_neg (by omega), if_neg (by omega), if_pos e]
          rw [hD]
          simp only [e,iW,Int.reduceEq,decide_true,decide_false,lQ,lT,Bool.or_self,Bool.false_and,bS,hP,hS,Int.toNat_natCast]
          show some _=some (toR p (Qb A x.Name 5),_)
          rw [hbe];rfl
        · have hD:wM p A x=Fp A x:=by
            unfold wM;rw [if_neg (by omega),if_neg (by omega),if_neg (by omega),if_neg (by omega),if_neg (by omega),if_neg (by omega),if_neg (by omega),if_neg (by omega),if_neg (by omega),if_neg (by omega),if_neg (by omega)]
          rw [hD]
          unfold Fp
          simp only [e,iW,Int.reduceEq,decide_true,decide_false,lQ,lT,Bool.or_true,Bool.true_and,bS,hP,hT,Int.toNat_natCast,wK,uf]
          rw [A7 (by omega),bS]
          cases lZ x.Person with
          | false=>rfl
          | true =>
            simp only [Bool.not_true,lT]
            cases (decide (x.To≤(A.es x.Name).yQ)||decide (1000000<x.To)) with
            | true=>rfl
            | false =>
              have:=hup { A.es x.Name with yQ:=x.To }
              simp only [kB] at this
              show some _=some (toR p (VY A x.Name _),_)
              rw [this]
              show some _=some (({ toR p A with cO:=(sO p (stA A)).set i (stA A x.Name),By:=_,To:=_ }:ai),_)
              rw [kS];rfl
end
end Go.KB
namespace Go.KB
set_option linter.unusedVariables false
def NmA (r:AO×List Str×Int):Prop:=(r.2.2=0→r.2.1=[])∧r.2.1.length<1000000
theorem yL {c:Bool} {a b:AO×List Str×Int} (ha:NmA a) (hb:NmA b):NmA (bif c then a else b):=by cases c <;> assumption
theorem EM {A:AO}:NmA (BB A):=⟨fun _=>rfl,by show 0<1000000;decide⟩
theorem PL {A:AO} {e:Int} {l:List Str} (he:e≠0) (hl:l.length<1000000):NmA (wO A e l):=⟨fun h=>absurd h he,hl⟩
theorem zN {A:AO} {e:Int} (he:e≠0):NmA (wO A e []):=PL he (by decide)
theorem vY {p:GPermitPlan} {c:Bool} {a b:AO×List Str×Int} (ha:VR p a.1) (hb:VR p b.1):VR p (bif c then a else b).1:=by cases c <;> assumption
section
variable {p:GPermitPlan} {A:AO} (hp:EP p) (b:I5 A)
include hp b in
theorem jQm {y:aH} (hy:y.Locks.length<1000):∀ r ∈ Gz p A y,r.Names.length<1000000:=by
 have hm:=hp.m
 have hpl:=b.pl
 have h1:(E8 A y).length<1000000:=Nat.lt_of_le_of_lt (List.length_filter_le _ _) (by omega)
 have h2:(nC p A (fun z=>yg p z y)).length<1000000:=Nat.lt_of_le_of_lt Pv (by omega)
 have h3:(AZ p A y).length<1000000:=Nat.lt_of_le_of_lt (List.length_filter_le _ _) (by have:=PG (x:=y) hp;omega)
 have h4:(yV A (fun s=>decide (kY p s y.Space≤1))).length<1000000:=Nat.lt_of_le_of_lt Uy hpl
 intro r hr
 unfold Gz at hr
 rcases List.mem_append.1 hr with hr | hr
 ·cases hd:decide (A.now<y.From) with
  | false=>rw [hd] at hr;cases hr
  | true=>rw [hd,lQ,List.mem_singleton] at hr;subst hr;decide
 ·have hr:=(List.mem_filter.1 hr).1
  rcases List.mem_append.1 hr with hr | hr
  ·simp only [List.mem_cons,List.not_mem_nil,or_false] at hr
   rcases hr with rfl | rfl | rfl
   ·exact h1
   ·exact h2
   ·exact h3
  ·cases hd:decide (y.Kind=3) with
   | false=>rw [hd] at hr;cases hr
   | true=>rw [hd,lQ,List.mem_singleton] at hr;subst hr;exact h4
include hp b in
theorem act_nm {x:GEvent}:NmA (wL p A x):=by
 have hm:=hp.m
 have hpl:=b.pl
 have hop:∀ so,(nC p A so).length<1000000:=fun so=>Nat.lt_of_le_of_lt Pv (by omega)
 have hpe:∀ so,(yV A so).length<1000000:=fun so=>Nat.lt_of_le_of_lt Uy hpl
 have Z5:mX p x.Name=true→NmA (Ai p A x):=fun hh=>by
  unfold Ai
  refine yL (zN (by decide)) (yL (zN (by decide)) ?_)
  have h1:=SC (p:=p) (A:=A) (x:=sH p x.Name)
  have h2:=jQm hp b (y:=sH p x.Name) (hp.l _ (Ap hh).1)
  cases hw:Gz p A (sH p x.Name) with
  | nil=>exact EM
  | cons r l=>rw [hw] at h1 h2;exact PL (h1 r List.mem_cons_self) (h2 r List.mem_cons_self)
 have Ns:(xN x.Op≠none→mX p x.Name=true)→NmA (wM p A x):=fun hh=>by
  unfold wM
  by_cases e0:x.Op=0
  ·rw [if_pos e0];exact EM
  rw [if_neg e0]
  by_cases e1:x.Op=1
  ·rw [if_pos e1];unfold Dl;exact yL (zN (by decide)) EM
  rw [if_neg e1]
  by_cases e2:x.Op=2
  ·rw [if_pos e2];exact Z5 (hh (by rw [e2];decide))
  rw [if_neg e2]
  by_cases e3:x.Op=3
  ·rw [if_pos e3];exact EM
  rw [if_neg e3]
  by_cases e4:x.Op=4
  ·rw [if_pos e4];exact Z5 (hh (by rw [e4];decide))
  rw [if_neg e4]
  by_cases e5:x.Op=5
  ·rw [if_pos e5];unfold BD;exact yL (PL (by decide) (hop _)) (yL (PL (by decide) (hpe _)) EM)
  rw [if_neg e5]
  by_cases e6:x.Op=6
  ·rw [if_pos e6];exact EM
  rw [if_neg e6]
  by_cases e7:x.Op=7
  ·rw [if_pos e7];unfold Uu;exact yL (zN (by decide)) (yL (zN (by decide)) EM)
  rw [if_neg e7]
  by_cases e8:x.Op=8
  ·rw [if_pos e8];unfold Jd;exact yL (zN (by decide)) (yL (zN (by decide)) (yL (zN (by decide)) (yL (zN (by decide)) (yL (PL (by decide) (hop _)) EM))))
  rw [if_neg e8]
  by_cases e9:x.Op=9
  ·rw [if_pos e9];unfold Jc;exact yL (zN (by decide)) (yL (zN (by decide)) EM)
  rw [if_neg e9]
  by_cases e10:x.Op=10
  ·rw [if_pos e10];unfold Jb;exact yL (zN (by decide)) EM
  rw [if_neg e10]
  unfold Fp;exact yL (zN (by decide)) (yL (zN (by decide)) EM)
 unfold wL
 cases hst:xN x.Op with
 | none=>exact Ns fun h=>absurd hst h
 | some l =>
  cases hh:mX p x.Name with
  | false=>exact zN (by decide)
  | true=>exact yL (zN (by decide)) (yL (zN (by decide)) (Ns fun _=>hh))
theorem act_ps {p:GPermitPlan} {A:AO} {x:GEvent} (h:VR p A):VR p (wL p A x).1:=by
 have Z5:VR p (Ai p A x).1:=by
  unfold Ai
  refine vY h (vY h ?_)
  cases Gz p A (sH p x.Name) <;> exact h
 have Ns:VR p (wM p A x).1:=by
  unfold wM
  by_cases e0:x.Op=0
  ·rw [if_pos e0];exact h
  rw [if_neg e0]
  by_cases e1:x.Op=1
  ·rw [if_pos e1];unfold Dl;exact vY h h
  rw [if_neg e1]
  by_cases e2:x.Op=2
  ·rw [if_pos e2];exact Z5
  rw [if_neg e2]
  by_cases e3:x.Op=3
  ·rw [if_pos e3];exact h
  rw [if_neg e3]
  by_cases e4:x.Op=4
  ·rw [if_pos e4];exact Z5
  rw [if_neg e4]
  by_cases e5:x.Op=5
  ·rw [if_pos e5];unfold BD;exact vY h (vY h h)
  rw [if_neg e5]
  by_cases e6:x.Op=6
  ·rw [if_pos e6];exact h
  rw [if_neg e6]
  by_cases e7:x.Op=7
  ·rw [if_pos e7];unfold Uu;exact vY h (vY h h)
  rw [if_neg e7]
  by_cases e8:x.Op=8
  ·rw [if_pos e8];unfold Jd
   refine vY h ?_
   cases hh:xw p x.Space with
   | false=>exact h
   | true =>
    refine vY h (vY h (vY h (vY h ?_)))
    intro q hq
    rcases SE hq with rfl | hq
    ·exact hh
    ·exact h q hq
  rw [if_neg e8]
  by_cases e9:x.Op=9
  ·rw [if_pos e9];unfold Jc
   refine vY h (vY h ?_)
   intro q hq
   exact h q (List.mem_filter.1 hq).1
  rw [if_neg e9]
  by_cases e10:x.Op=10
  ·rw [if_pos e10];unfold Jb;exact vY h h
  rw [if_neg e10]
  unfold Fp;exact vY h (vY h h)
 unfold wL
 cases xN x.Op with
 | none=>exact Ns
 | some l=>exact vY h (vY h Ns)
theorem do_ps {p:GPermitPlan} {A:AO} {x:GEvent} (h:VR p A):VR p (CQ p A x).1:=by
 have h1:VR p (wL p (gZ p { A with now:=x.At }) x).1:=act_ps h
 unfold CQ
 refine vY h (vY h ?_)
 exact vY h1 h1
end
theorem rDo_eq {N:Nat} {p:GPermitPlan} {A:AO} (hp:EP p) (ho:Ee p) (hN:1000000≤N) (h:Sl p A) (ps:VR p A) (hd:A.done.length<100000) (x:GEvent) :
    wo N (toR p A) x=some (toR p (CQ p A x).1,⟨(CQ p A x).2.2,(CQ p A x).2.1⟩)∧(CQ p A x).2.1.length<1000000:=by
  unfold wo CQ
  simp only [bW,uf]
  rw [show decide (11<x.Op)=decide (12≤x.Op) from decide_eq_decide.2 ⟨fun h=>by omega,fun h=>by omega⟩]
  by_cases hr:x.Op<0∨12≤x.Op∨x.At<0∨1000000<x.At
  · have hr' : (decide (x.Op < 0) || decide (12 ≤ x.Op) || decide (x.At < 0) || decide (1000000 < x.At)) = true := by simpa [or_assoc] using hr
    rw [hr'];exact ⟨rfl,by show 0<1000000;decide⟩
  · have hr' : (decide (x.Op < 0) || decide (12 ≤ x.Op) || decide (x.At < 0) || decide (1000000 < x.At)) = false := by simp; omega
    rw [hr',lT,lT]
    show (bif decide (x.At<A.now) then _ else _)=_∧_
    by_cases hw0:x.At<A.now
    · rw [dT hw0];exact ⟨rfl,by show 0<1000000;decide⟩
    · rw [dF hw0,lT,lT]
      have hw:WA p A.done { A with now:=x.At }:=h.w.le (fun s=>.inl rfl) (fun _=>rfl) ⟨by show A.now≤x.At;omega,by show x.At≤1000000;omega⟩ h.w.pp (fun s t e=>.inl e) h.w.pl
      have hi:=EN ho hw
      have bA:I5 A:=h.w.bd (by omega)
      have bN:I5 { A with now:=x.At }:=hw.bd (by omega)
      have bSt:I5 (gZ p { A with now:=x.At }):=bN.settle
      have wS:WA p A.done (gZ p { A with now:=x.At }):=hw.settle
      obtain ⟨s1,s2,s3,s4,_⟩:=Ll ho (A:=gZ p { A with now:=x.At }) (x:=x) (by omega) (by omega)
      have hnm:=act_nm hp bSt (x:=x)
      have hdn:=ZY hp ho hN bSt (fun q hq=>ps q hq) wS.pp (x:=x) (by omega) (by omega)
      rw [I9 hp bA,bS]
      show ((oN N (toR p { A with now:=x.At })).bind fun v4=>_)=_∧_
      rw [PI hp ho hN bN,bS,hdn,bS]
      generalize hR:wL p (gZ p { A with now:=x.At }) x=R at s1 s2 s3 s4 hnm hdn
      simp only [qN]
      by_cases h0:R.2.2=0
      · have bR : I5 R.1 := (s2 _ wS).bd (by simp only [List.length_append, List.length_singleton]; omega)
        rw [dT h0]
        simp only [Bool.not_true,lT,lQ]
        rw [PI hp ho hN bR,bS,hnm.1 h0,h0]
        exact ⟨rfl,by decide⟩
      · rw [dF h0]
        simp only [Bool.not_false,lQ,lT]
        rw [s1 h0]
        exact ⟨rfl,hnm.2⟩
theorem V5 {p:GPermitPlan} (ho:Ee p) {x:aH} (hx:x ∈ p.aj):(FQ p).es x.Name=⟨0,[],x.To⟩:=by
 have hh:mX p x.Name=true:=zM.2 ⟨x,hx,rfl⟩
 have h2:=ho.pk x hx
 have e0:(MQ p).es x.Name=⟨0,[],x.To⟩:=by
  show (bif mX p x.Name then (⟨0,[],(sH p x.Name).To⟩:ah) else ⟨0,[],0⟩)=_
  rw [hh,ho.FT hx];rfl
 have e1:(Bc p (MQ p)).es x.Name=⟨0,[],x.To⟩:=by
  show (bif mX p x.Name then Bd 0 ((MQ p).es x.Name) else (MQ p).es x.Name)=_
  rw [hh,e0]
  unfold Bd
  rw [show decide ((⟨0,[],x.To⟩:ah).yQ≤0)=false from dF (by show ¬ x.To≤0;omega),Bool.and_false];rfl
 show (bif mX p x.Name&&decide (stA (Bc p (MQ p)) x.Name=2)&&yh p (Bc p (MQ p)) (sH p x.Name) then ({ (Bc p (MQ p)).es x.Name with state:=3 }:ah) else (Bc p (MQ p)).es x.Name)=_
 rw [show decide (stA (Bc p (MQ p)) x.Name=2)=false from by unfold stA;rw [e1];rfl,Bool.and_false,Bool.false_and]
 exact e1
theorem Z7 {α:Type} {z:α} {n:Nat} (h:n<1000000):mk z (n:Int) (n:Int)=some (List.replicate n z):=by
 have hlim:(10000000:Int)≤lim:=by decide
 unfold mk
 rw [dT (by omega),dT (by omega),dT (by omega),Int.toNat_natCast];rfl
theorem SG {α β:Type} {f:α→β} {z:β} {l:List α} (h:∀ x ∈ l,f x=z):List.replicate l.length z=l.map f:=by
 rw [List.map_congr_left h,List.map_const']
theorem jQu {N:Nat} {p:GPermitPlan} (hp:EP p) (ho:Ee p) (hN:1000000≤N):CW N p=some (toR p (FQ p)):=by
 have hm:=hp.m
 have hs:=hp.s
 have hlim:lim ≥ 10000000:=by decide
 unfold CW
 rw [Z7 (by omega),bS,Z7 (by omega),bS,Z7 (by omega),bS]
 have key:=CJ (N:=N) (n:=p.aj.length) (f:=uh N p) (fun i=>((⟨p,0,List.replicate p.aj.length 0,List.replicate p.aj.length [],(p.aj.take i).map (fun x=>x.To),List.replicate p.bM.length (⟨false,0,0,0⟩:dZ),[]⟩:ai),(i:Int))) ((⟨p,0,List.replicate p.aj.length 0,List.replicate p.aj.length [],(p.aj.take p.aj.length).map (fun x=>x.To),List.replicate p.bM.length (⟨false,0,0,0⟩:dZ),[]⟩:ai)) (fun i hi=>?_) ?_ (by omega)
 ·rw [List.take_length] at key
  have e:(⟨p,0,List.replicate p.aj.length 0,List.replicate p.aj.length [],p.aj.map (fun x=>x.To),List.replicate p.bM.length (⟨false,0,0,0⟩:dZ),[]⟩:ai)=toR p (FQ p):=by
   show (⟨p,0,_,_,_,_,[]⟩:ai)=⟨p,0,sO p (stA (FQ p)),sO p (fun n=>((FQ p).es n).zS),sO p (fun n=>((FQ p).es n).yQ),NZ p (fun s=>Kt none),[]⟩
   congr 1
   ·exact SG fun x hx=>by unfold stA;rw [V5 ho hx]
   ·exact SG fun x hx=>by simp only [V5 ho hx]
   ·exact List.map_congr_left fun x hx=>by simp only [V5 ho hx]
   ·exact SG fun x hx=>rfl
  show ((dU (uh N p) N ((⟨p,0,List.replicate p.aj.length 0,List.replicate p.aj.length [],[],List.replicate p.bM.length (⟨false,0,0,0⟩:dZ),[]⟩:ai),0)).bind fun o8=>some o8)=_
  rw [show dU (uh N p) N ((⟨p,0,List.replicate p.aj.length 0,List.replicate p.aj.length [],[],List.replicate p.bM.length (⟨false,0,0,0⟩:dZ),[]⟩:ai),0)=_ from key,e];rfl
 ·unfold uh
  simp only []
  rw [bW,dT (by omega),lQ,jd hi,bS,Ah (by simp only [List.length_map,List.length_take,List.length_singleton];omega),bS,qx (by omega),List.take_succ_eq_append_getElem hi,List.map_append];rfl
 ·unfold uh
  simp only []
  rw [bW,dF (by omega),lT]
end Go.KB
namespace Go.KB
set_option linter.unusedVariables false
def tX (p:GPermitPlan):AO→List GEvent→AO×Nat×Int
 | A,[]=>(A,0,0)
 | A,x :: r=>bif decide ((CQ p A x).2.2=0) then ((tX p (CQ p A x).1 r).1,(tX p (CQ p A x).1 r).2.1+1,(tX p (CQ p A x).1 r).2.2) else (A,0,(CQ p A x).2.2)
theorem Pm {p:GPermitPlan} {A:AO} {x:GEvent} {r:List GEvent} (h:(CQ p A x).2.2=0):tX p A (x :: r)=((tX p (CQ p A x).1 r).1,(tX p (CQ p A x).1 r).2.1+1,(tX p (CQ p A x).1 r).2.2):=by
 show (bif decide ((CQ p A x).2.2=0) then _ else _)=_
 rw [dT h];rfl
theorem Pn {p:GPermitPlan} {A:AO} {x:GEvent} {r:List GEvent} (h:(CQ p A x).2.2≠0):tX p A (x :: r)=(A,0,(CQ p A x).2.2):=by
 show (bif decide ((CQ p A x).2.2=0) then _ else _)=_
 rw [dF h];rfl
theorem do_acc {p:GPermitPlan} {A:AO} {x:GEvent} (h:(CQ p A x).2.2=0):(CQ p A x).1.done=A.done ++ [x]:=by
 unfold CQ at h ⊢
 cases h1:(decide (x.Op<0)||decide (12≤x.Op)||decide (x.At<0)||decide (1000000<x.At)) with
 | true=>rw [h1] at h;exact absurd (show (2:Int)=0 from h) (by decide)
 | false =>
  rw [h1] at h
  rw [lT] at h ⊢
  cases h2:decide (x.At<A.now) with
  | true=>rw [h2] at h;exact absurd (show (10:Int)=0 from h) (by decide)
  | false =>
   rw [h2] at h
   rw [lT] at h ⊢
   simp only [] at h ⊢
   by_cases h3:(wL p (gZ p { A with now:=x.At }) x).2.2=0
   ·rw [dT h3];rfl
   ·rw [dF h3] at h;exact absurd h h3
theorem Pq {p:GPermitPlan}:∀ {r:List GEvent} {A:AO},(tX p A r).2.1≤r.length∧(tX p A r).1.done=A.done ++ r.take (tX p A r).2.1∧((tX p A r).2.2=0→(tX p A r).2.1=r.length):=by
 intro r
 induction r with
 | nil=>intro A;exact ⟨Nat.le_refl _,by show A.done=_;simp [tX],fun _=>rfl⟩
 | cons x r ih =>
  intro A
  by_cases h:(CQ p A x).2.2=0
  ·obtain ⟨i1,i2,i3⟩:=ih (A:=(CQ p A x).1)
   rw [Pm h]
   refine ⟨by simp only [List.length_cons];omega,?_,fun he=>by simp only [List.length_cons];rw [i3 he]⟩
   simp only []
   rw [i2,do_acc h,List.append_assoc];rfl
  ·rw [Pn h]
   exact ⟨Nat.zero_le _,by simp,fun he=>absurd he h⟩
theorem V6 {N:Nat} {g:af} {st:List (Str×ah)} {pK:List (Str×au)} {pe:List (Str×Str)} (hl:g.done.length<1000000):nT N g st pK pe=some (some (g,st,pK,pe),()):=by
 have hlim:lim ≥ 10000000:=by decide
 unfold nT jY
 rw [Ah (by simp only [List.length_nil];omega)];rfl
theorem Uz {N:Nat} {p:GPermitPlan} (hp:EP p) (ho:Ee p) (hN:1000000≤N) {l:List GEvent} (hl:l.length<1000):∀ (d i:Nat) (A:AO) (g:af) (st:List (Str×ah)) (pK:List (Str×au)) (pe:List (Str×Str)) (M:Nat),i+d=l.length→d<M→UA p i A g st pK pe →
    ∃ g' st' FV Qo,UA p (i+(tX p A (l.drop i)).2.1) (tX p A (l.drop i)).1 g' st' FV Qo∧dU (kL N l) M ((i:Int),g,st,pK,pe)=some (bif decide ((tX p A (l.drop i)).2.2=0) then Sum.inl (g',st',FV,Qo) else Sum.inr (some (g',st',FV,Qo),((i+(tX p A (l.drop i)).2.1:Nat):Int),(tX p A (l.drop i)).2.2)):=by
  intro d
  induction d with
  | zero =>
    intro i A g st pK pe M hi hM h
    obtain ⟨M,rfl⟩:∃ m,M=m+1:=⟨M - 1,by omega⟩
    rw [List.drop_of_length_le (by omega)]
    refine ⟨g,st,pK,pe,h,?_⟩
    have e:kL N l ((i:Int),g,st,pK,pe)=some (.inr (Sum.inl (g,st,pK,pe))):=by
      unfold kL
      simp only []
      rw [bW,dF (by omega),lT]
    rw [dU,e];rfl
  | succ d ih =>
    intro i A g st pK pe M hi hM h
    obtain ⟨M,rfl⟩:∃ m,M=m+1:=⟨M - 1,by omega⟩
    have hlt:i<l.length:=by omega
    obtain ⟨g1,st1,air1,pe1,hd,h1⟩:=run_do hp ho hN h (by omega) l[i]
    have hcl:nT N g st pK pe=some (some (g,st,pK,pe),()):=V6 (by rw [h.rel.done];have:=h.len;omega)
    rw [List.drop_eq_getElem_cons hlt]
    by_cases h0:(CQ p A l[i]).2.2=0
    · have e:kL N l ((i:Int),g,st,pK,pe)=some (.inl (((i+1:Nat):Int),g1,st1,air1,pe1)):=by
        unfold kL
        simp only []
        rw [bW,dT (by omega),lQ,jd hlt,bS,hcl,bS]
        simp only [Cc]
        rw [hd,bS]
        simp only []
        rw [h0,qN,dT rfl,qx (by omega)];rfl
      rw [dU,e,Pm h0]
      obtain ⟨g',st',FV,Qo,h2,h3⟩:=ih (i+1) _ g1 st1 air1 pe1 M (by omega) (by omega) h1
      refine ⟨g',st',FV,Qo,?_,?_⟩
      · have e2 : i + 1 + (tX p (CQ p A l[i]).1 (List.drop (i + 1) l)).2.1 = i + ((tX p (CQ p A l[i]).1 (List.drop (i + 1) l)).2.1 + 1) := by omega
        rw [← e2];exact h2
      · have e2 : i + 1 + (tX p (CQ p A l[i]).1 (List.drop (i + 1) l)).2.1 = i + ((tX p (CQ p A l[i]).1 (List.drop (i + 1) l)).2.1 + 1) := by omega
        rw [e2] at h3;exact h3
    · have e:kL N l ((i:Int),g,st,pK,pe)=some (.inr (Sum.inr (some (g,st,pK,pe),(i:Int),(CQ p A l[i]).2.2))):=by
        unfold kL
        simp only []
        rw [bW,dT (by omega),lQ,jd hlt,bS,hcl,bS]
        simp only [Cc]
        rw [hd,bS]
        simp only []
        rw [qN,dF h0];rfl
      rw [dU,e,Pn h0]
      exact ⟨g,st,pK,pe,h,by rw [dF h0];rfl⟩
theorem XU {N:Nat} {p:GPermitPlan} (hp:EP p) (hc:uG p=0) (hN:1000000≤N) {l:List GEvent} (hl:l.length<1000) :
  ∃ g st pK pe,UA p (tX p (FQ p) l).2.1 (tX p (FQ p) l).1 g st pK pe∧rZ N p l=some (some (g,st,pK,pe),(((tX p (FQ p) l).2.1:Nat):Int),(tX p (FQ p) l).2.2):=by
 obtain ⟨st,hn,hr⟩:=Xc hp hc hN
 obtain ⟨g',st',FV,Qo,h1,h2⟩:=Uz hp (okP hc) hN hl l.length 0 (FQ p) _ st [] [] N (by omega) (by omega) hr
 rw [List.drop_zero,Nat.zero_add] at h1 h2
 refine ⟨g',st',FV,Qo,h1,?_⟩
 unfold rZ
 rw [hn,bS]
 simp only [Cc]
 rw [qN,dT rfl,Bool.not_true,lT]
 show (dU (kL N l) N (((0:Nat):Int),_,st,[],[])).bind _=_
 rw [h2,bS]
 by_cases h0:(tX p (FQ p) l).2.2=0
 ·rw [dT h0,h0,lQ,Pq.2.2 h0];rfl
 ·rw [dF h0];rfl
theorem VT {N:Nat} {p:GPermitPlan} (hp:EP p) (hc:uG p≠0) (hN:1000000≤N) {l:List GEvent}:rZ N p l=some (none,0,uG p):=by
 unfold rZ
 rw [jQn hp hc hN,bS]
 simp only [Cc]
 rw [qN,dF hc];rfl
end Go.KB
