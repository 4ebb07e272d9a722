/- Plain laws of chapter 7: the open permits are a possible set. Plain laws of chapter 7: the reference office, its questions. Plain laws of chapter 7: the reference office settles. Plain laws of chapter 7: the reference office takes an event. Plain laws of chapter 7: the reference office lets persons in and out, and takes an event of a permit. Plain laws of chapter 7: the reference office takes an event as the office by names does. Plain laws of chapter 7: the reference office does what the office by names does, from the start. No condition. -/
import Derived.Test.YtekbfkfjhgfieaaGreatPZo
import Derived.Test.YtekbfkfjhgfieaaGreatPZp
namespace Go.KB
set_option linter.unusedVariables false
theorem SB {p:GPermitPlan} {A:AO} {so:aG→Bool}:(mZ p A so).length≤p.aj.length:=by
 unfold mZ;rw [List.length_map];exact List.length_filter_le _ _
end Go.KB
namespace Go.KB
set_option linter.unusedVariables false
def Ji:Option ay→dL
 | none=>⟨false,0,0,0⟩
 | some t=>⟨true,t.at_,t.mW,t.O9⟩
def rX {β:Type} (p:GPermitPlan) (F:Str→β):List β:=p.aj.map fun x=>F x.Name
def MO {β:Type} (p:GPermitPlan) (F:Str→β):List β:=p.bG.map fun x=>F x.Name
def Jj (q:Str×Str):eP:=⟨q.1,q.2⟩
def toR (p:GPermitPlan) (A:AO):af:=⟨p,A.now,rX p (stA A),rX p (fun n=>(A.es n).yY),rX p (fun n=>(A.es n).xX),MO p (fun s=>Ji (A.ts s)),A.pp.map Jj⟩
def UG (p:GPermitPlan) (A:AO):Prop:=∀ q ∈ A.pp,vW p q.2=true
section
variable {β:Type} {p:GPermitPlan} {F G:Str→β}
theorem tq:(rX p F).length=p.aj.length:=by unfold rX;rw [List.length_map]
theorem Ie:(MO p F).length=p.bG.length:=by unfold MO;rw [List.length_map]
theorem ZX {i:Nat} (h:i<(rX p F).length):(rX p F)[i]=F (p.aj[i]'(by rw [tq] at h;exact h)).Name:=by simp [rX]
theorem ZY {i:Nat} (h:i<(MO p F).length):(MO p F)[i]=F (p.bG[i]'(by rw [Ie] at h;exact h)).Name:=by simp [MO]
theorem Bc {i:Nat} (hi:i<p.aj.length):idx (rX p F) (i:Int)=some (F p.aj[i]!.Name):=by
 rw [ji (by rw [tq];exact hi)];unfold rX;rw [List.getElem_map,BH hi]
theorem Yx {i:Nat} (hi:i<p.bG.length):idx (MO p F) (i:Int)=some (F p.bG[i]!.Name):=by
 rw [ji (by rw [Ie];exact hi)];unfold MO;rw [List.getElem_map,BH hi]
theorem zi (h:∀ x ∈ p.aj,F x.Name=G x.Name):rX p F=rX p G:=List.map_congr_left h
theorem WB (h:∀ x ∈ p.bG,F x.Name=G x.Name):MO p F=MO p G:=List.map_congr_left h
theorem JK (ho:DN p) {i:Nat} (hi:i<p.aj.length) (v:β):(rX p F).set i v=rX p (fun n=>bif decide (n=p.aj[i]!.Name) then v else F n):=by
 refine List.ext_getElem (by rw [List.length_set,tq,tq]) fun j h1 h2=>?_
 have h2':j<p.aj.length:=by rw [tq] at h2;exact h2
 rw [List.getElem_set]
 simp only [ZX]
 by_cases e:i=j
 ·subst e;rw [if_pos rfl,dT (congrArg aG.Name (BH hi).symm)];rfl
 ·rw [if_neg e,dF (fun he=>e (ho.pd i j hi h2' (by rw [BH h2'];exact he.symm)))];rfl
theorem Z4 (ho:DN p) {i:Nat} (hi:i<p.bG.length) (v:β):(MO p F).set i v=MO p (fun n=>bif decide (n=p.bG[i]!.Name) then v else F n):=by
 refine List.ext_getElem (by rw [List.length_set,Ie,Ie]) fun j h1 h2=>?_
 have h2':j<p.bG.length:=by rw [Ie] at h2;exact h2
 rw [List.getElem_set]
 simp only [ZY]
 by_cases e:i=j
 ·subst e;rw [if_pos rfl,dT (congrArg dn.Name (BH hi).symm)];rfl
 ·rw [if_neg e,dF (fun he=>e (ho.sd i j hi h2' (by rw [BH h2'];exact he.symm)))];rfl
end
theorem ltN (a b:Int):decide (a<b) = !decide (b≤a):=by rw [Bool.eq_iff_iff];simp
section
variable {N:Nat} {p:GPermitPlan} {A:AO} (hp:EZ p) (ho:DN p) (hN:1000000≤N) (b:G6 A)
include ho b in
theorem Yy {k:Nat} (hk:k<p.bG.length) {q:Bool}:rC N (toR p A) (k:Int) q=some (bif q then Pz p A p.bG[k]!.Name else PD p A p.bG[k]!.Name):=by
 unfold rC Pz PD
 show ((idx p.bG (k:Int)).bind fun v1=>bif (!v1.dm) then (some true) else ((idx (MO p fun s=>Ji (A.ts s)) (k:Int)).bind fun v2=>bif (((((!v2.Done)||(aF .gtr (IntKind.i64.wrap (A.now - v2.At)) p.fC))||(aF .lss v2.nG 195))||(aF .gtr v2.nG 235))||(aF .gtr v2.EY 50)) then (some false) else (some ((!q)||(aF .leq v2.EY 10)))))=_
 rw [zk hk,bS,Yx hk,bS,ho.Yz (qL hk)]
 cases p.bG[k]!.dm with
 | false=>cases q <;> rfl
 | true =>
  simp only [Bool.not_true,cond_false]
  cases ht:A.ts p.bG[k]!.Name with
  | none=>cases q <;> rfl
  | some t =>
   have h1:=b.tt _ t ht
   have h2:=b.tm
   show (bif (((((!true)||(aF .gtr (IntKind.i64.wrap (A.now - t.at_)) p.fC))||(aF .lss t.mW 195))||(aF .gtr t.mW 235))||(aF .gtr t.O9 50)) then (some false) else (some ((!q)||(aF .leq t.O9 10))))=_
   rw [w64i (by omega) (by omega)]
   simp only [sG,bQ,vG,ltN]
   cases decide (A.now - t.at_≤p.fC) <;> cases decide (195≤t.mW) <;> cases decide (t.mW≤235) <;> cases decide (t.O9≤50) <;> cases decide (t.O9≤10) <;> cases q <;> rfl
theorem SC {p:GPermitPlan} {A:AO} {x:aG} {s:Str} (h:(yx p s).dm=false):DF p A x s=true:=by
 unfold DF Pz PD;rw [h];simp
theorem Z5 (ho:DN p) {x:aG} (hx:x ∈ p.aj):∀ k ∈ OT p x,∃ j:Nat,k=(j:Int)∧j<p.bG.length:=by
 obtain ⟨s,hsl,f1,f2⟩:=ixS (ho.pk _ hx).2.2.2.2
 intro k hk
 unfold OT at hk
 cases hn:zQ x with
 | false=>rw [hn] at hk;cases hk
 | true =>
  rw [hn,cond_true] at hk
  rcases List.mem_cons.1 hk with rfl | hk
  ·exact ⟨s,f1,hsl⟩
  ·cases h0:decide (x.Kind=0) with
   | false=>rw [h0] at hk;cases hk
   | true =>
    rw [h0,cond_true,List.mem_map] at hk
    obtain ⟨j,hj,rfl⟩:=hk
    unfold plS at hj
    rw [List.mem_filter,List.mem_range] at hj
    exact ⟨j,rfl,hj.1⟩
theorem Z7 {p:GPermitPlan} {x:aG}:(OT p x).length≤1+p.bG.length:=by
 unfold OT plS
 cases zQ x with
 | false=>exact Nat.zero_le _
 | true =>
  rw [cond_true,List.length_cons]
  cases decide (x.Kind=0) with
  | false=>simp
  | true =>
   rw [cond_true,List.length_map]
   have:=List.length_filter_le (fun k=>decide (kJ p x.Space p.bG[k]!.Name=1)) (List.range p.bG.length)
   rw [List.length_range] at this;omega
theorem YA (ho:DN p) {x:aG} (hx:x ∈ p.aj):((OT p x).filter fun k=>!DF p A x p.bG[k.toNat]!.Name).map (fun k=>p.bG[k.toNat]!.Name)=zS p A x:=by
 have hsp:=(ho.pk _ hx).2.2.2.2
 obtain ⟨s,hsl,f1,f2⟩:=ixS hsp
 have hnm:(yx p x.Space).Name=x.Space:=(JL hsp).2
 unfold zS OT G7
 have hneed:x.Kind=0→zQ x=true:=fun e=>by unfold zQ;rw [e];rfl
 cases hn:zQ x with
 | false=>rw [dF (fun e=>by rw [hneed e] at hn;cases hn)];rfl
 | true =>
  rw [cond_true,Bool.true_and,f1,hnm]
  have htail:((bif decide (x.Kind=0) then (plS p x).map (fun (k:Nat)=>(k:Int)) else []).filter (fun k=>!DF p A x p.bG[k.toNat]!.Name)).map (fun k=>p.bG[k.toNat]!.Name)=(bif decide (x.Kind=0) then (p.bG.filter (fun y=>y.dm&&decide (kJ p y.Name x.Space=1))).map (fun y=>y.Name) else []).filter (fun s=>!DF p A x s):=by
   cases decide (x.Kind=0) with
   | false=>rfl
   | true =>
    simp only [cond_true]
    unfold plS
    rw [List.filter_map,List.map_map,List.filter_filter,List.filter_map,List.filter_filter,← QC (fun a=>((fun s=>!DF p A x s) ∘ fun y:dn=>y.Name) a&&(a.dm&&decide (kJ p a.Name x.Space=1))) (fun y:dn=>y.Name)]
    refine congrArg _ (List.filter_congr fun k hk=>?_)
    rw [List.mem_range] at hk
    simp only [Function.comp_apply,Int.toNat_natCast]
    rw [Ob p x.Space]
    cases he:p.bG[k]!.dm with
    | true=>rw [Bool.true_and]
    | false=>rw [SC (by rw [ho.Yz (qL hk)];exact he)];rfl
  rw [List.filter_cons,List.filter_append,← htail]
  have hs0:p.bG[(s:Int).toNat]!.Name=x.Space:=by rw [Int.toNat_natCast,f2,hnm]
  rw [hs0]
  cases he:(yx p x.Space).dm with
  | true =>
   rw [cond_true,List.filter_cons]
   cases DF p A x x.Space with
   | true=>rfl
   | false=>simp only [Bool.not_false,if_true,List.map_cons,hs0];rfl
  | false=>rw [SC he];rfl
include hp ho hN b in
theorem LH {i:Nat} (hi:i<p.aj.length):pq N (toR p A) (i:Int)=some (zS p A p.aj[i]!):=by
 have hs:=hp.s
 have hlim:lim ≥ 1000000:=by decide
 have hx:=qL hi
 have hl:=Z7 (p:=p) (x:=p.aj[i]!)
 unfold pq
 show ((wM N p (i:Int)).bind fun v1=>_)=_
 rw [UJ hp ho hi hN,bS]
 rw [CW (f:=nK N (toR p A) (i:Int) (OT p p.aj[i]!)) (OT p p.aj[i]!) [] (fun k=>!DF p A p.aj[i]! p.bG[k.toNat]!.Name) (fun k=>p.bG[k.toNat]!.Name) (fun a i=>(a,i)) (fun a=>a) (fun j hj acc hacc=>?_) (fun acc=>?_) (by omega)]
 ·rw [YA ho hx];rfl
 ·obtain ⟨k,hk,hkl⟩:=Z5 ho hx _ (List.getElem_mem hj)
  simp only [List.length_nil] at hacc
  unfold nK
  simp only []
  rw [bQ,dT (by omega),cond_true,ji hj,bS,hk]
  show ((idx p.aj (i:Int)).bind fun v4=>(rC N (toR p A) (k:Int) (aF .eql v4.Kind 0)).bind fun v5=>bif (!v5) then ((some (k:Int)).bind fun v6=>(idx p.bG v6).bind fun v7=>(app acc [v7.Name]).bind fun v8=>some (Sum.inl (v8,(IntKind.i64.wrap ((j:Int)+1))))) else (some (.inl (acc,(IntKind.i64.wrap ((j:Int)+1))))))=_
  rw [zk hi,bS,Yy ho b hkl,bS,bS,zk hkl,bS,qw (by omega),Int.toNat_natCast,jr]
  show (bif !DF p A p.aj[i]! p.bG[k]!.Name then _ else _)=_
  cases DF p A p.aj[i]! p.bG[k]!.Name with
  | true=>rfl
  | false=>simp only [Bool.not_false,cond_true];rw [zW (by simp only [List.length_singleton];omega)];rfl
 ·unfold nK
  simp only []
  rw [bQ,dF (by omega),cond_false]
include hp ho hN in
theorem JM {i:Nat} (hi:i<p.aj.length):oD N (toR p A) (i:Int)=some (DZ A p.aj[i]!):=by
 have hm:=hp.m
 have hlim:lim ≥ 1000000:=by decide
 have hx:=qL hi
 have hl:=hp.l _ hx
 unfold oD
 show ((idx p.aj (i:Int)).bind fun v1=>_)=_
 rw [zk hi,bS]
 rw [CW (f:=ni N (toR p A) p.aj[i]!) p.aj[i]!.Locks [] (fun s=>!decide (stA A s=2)) (fun s=>s) (fun a i=>(a,i)) (fun a=>a) (fun j hj acc hacc=>?_) (fun acc=>?_) (by omega)]
 ·rw [List.nil_append,List.map_id'];rfl
 ·simp only [List.length_nil] at hacc
  obtain ⟨k,hk,e1,e2⟩:=ixP (ho.lk _ hx _ (List.getElem_mem hj)).1
  have hnm:=(zC (ho.lk _ hx _ (List.getElem_mem hj)).1).2
  unfold ni
  simp only []
  rw [bQ,dT (by omega),cond_true,ji hj,bS]
  show ((qf N p p.aj[i]!.Locks[j]).bind fun v4=>(idx (rX p (stA A)) v4).bind fun v5=>_)=_
  rw [FV (by omega) hN,bS,e1,Bc hk,bS,e2,hnm,uK,qw (by omega),bS]
  cases decide (stA A p.aj[i]!.Locks[j]=2) with
  | true=>rfl
  | false=>simp only [Bool.not_false,cond_true];rw [zW (by simp only [List.length_singleton];omega)];rfl
 ·unfold ni
  simp only []
  rw [bQ,dF (by omega),cond_false]
include hp hN b in
theorem Oc (ps:UG p A) {s:Str} (hs:vW p s=true) {k:Int}:mX N (toR p A) s k=some (yg A fun t=>decide (kJ p t s≤k)):=by
 have hlim:lim ≥ 1000000:=by decide
 have hb:=b.pl
 unfold mX
 rw [CW (f:=nU N (toR p A) s k) A.pp [] (fun q=>decide (kJ p q.2 s≤k)) (fun q=>q.1) (fun a i=>(a,i)) (fun a=>a) (fun j hj acc hacc=>?_) (fun acc=>?_) (by omega)]
 ·rfl
 ·simp only [List.length_nil] at hacc
  unfold nU
  simp only []
  show (bif (aF .lss (j:Int) (List.length (A.pp.map Jj):Int)) then ((idx (A.pp.map Jj) (j:Int)).bind fun v2=>(lI N p v2.Space s).bind fun v3=>bif (aF .leq v3 k) then ((idx (A.pp.map Jj) (j:Int)).bind fun v4=>(app acc [v4.Name]).bind fun v5=>some (Sum.inl (v5,(IntKind.i64.wrap ((j:Int)+1))))) else (some (.inl (acc,(IntKind.i64.wrap ((j:Int)+1)))))) else (some (.inr acc)))=_
  rw [List.length_map,bQ,dT (by omega),cond_true,ji (by rw [List.length_map];exact hj),List.getElem_map,bS,bS]
  show ((lI N p A.pp[j].2 s).bind fun v3=>_)=_
  rw [Ak hp (ps _ (List.getElem_mem hj)) hs hN,bS,vG,qw (by omega)]
  cases decide (kJ p A.pp[j].2 s≤k) with
  | false=>rfl
  | true=>simp only [cond_true];rw [zW (by simp only [List.length_singleton];omega)];rfl
 ·unfold nU
  simp only []
  show (bif (aF .lss (A.pp.length:Int) (List.length (A.pp.map Jj):Int)) then _ else _)=_
  rw [List.length_map,bQ,dF (by omega),cond_false]
theorem near0 {a s:Str}:decide (kJ p a s≤0)=decide (a=s):=by
 refine decide_eq_decide.2 ⟨fun h=>?_,fun h=>by rw [h];unfold kJ;rw [if_pos rfl];omega⟩
 unfold kJ at h
 by_cases e:a=s
 ·exact e
 ·rw [if_neg e] at h
  cases hb:(DR (yx p a).Next s||DR (yx p s).Next a) <;> rw [hb] at h <;> simp at h
theorem Oe {o:List bM} {r:bM} {c:Bool} (h:o.length<100):((bif c then ((app o [r]).bind fun v=>some v) else (some o)):Option (List bM))=some (o ++ bif c then [r] else []):=by
 have hlim:lim ≥ 1000000:=by decide
 cases c with
 | false=>rw [cond_false,cond_false,List.append_nil]
 | true=>rw [cond_true,cond_true,zW (by simp only [List.length_singleton];omega)];rfl
theorem MP {r:bM} {c:Bool}:(bif c then [r] else []).length≤1:=by cases c <;> simp
theorem UK {r:bM}:[r].filter (fun r=>!r.Names.isEmpty)=bif !r.Names.isEmpty then [r] else []:=by
 rw [List.filter_cons];cases r.Names.isEmpty <;> rfl
include hp ho hN b in
theorem SE (ps:UG p A) {i:Nat} (hi:i<p.aj.length):oZ N (toR p A) (i:Int)=some (EU p A p.aj[i]!):=by
 have hm:=hp.m
 have hlim:lim ≥ 1000000:=by decide
 have hx:=qL hi
 unfold oZ
 show ((idx p.aj (i:Int)).bind fun v1=>_)=_
 rw [zk hi,bS]
 have hopen:dU (lZ N (toR p A) (i:Int)) N ([],0)=some (mZ p A (fun y=>wX p y p.aj[i]!)):=by
  rw [CW (f:=lZ N (toR p A) (i:Int)) p.aj [] (fun y=>decide (stA A y.Name=2)&&wX p y p.aj[i]!) (fun y=>y.Name) (fun a i=>(a,i)) (fun a=>a) (fun j hj acc hacc=>?_) (fun acc=>?_) (by omega)]
  ·rfl
  ·simp only [List.length_nil] at hacc
   unfold lZ
   simp only []
   show (bif (aF .lss (j:Int) (List.length (rX p (stA A)):Int)) then ((idx (rX p (stA A)) (j:Int)).bind fun v12=>(bif (aF .eql v12 2) then (uy N p (i:Int) (j:Int)) else some false).bind fun v13=>bif ((aF .eql v12 2)&&v13) then ((idx p.aj (j:Int)).bind fun v14=>(app acc [v14.Name]).bind fun v15=>some (Sum.inl (v15,(IntKind.i64.wrap ((j:Int)+1))))) else (some (.inl (acc,(IntKind.i64.wrap ((j:Int)+1)))))) else (some (.inr acc)))=_
   rw [tq,bQ,dT (by omega),cond_true,Bc hj,bS,QD hp ho hi hj hN,zk hj,bS,qw (by omega),jr,← BH hj,Jk p p.aj[i]!]
   cases decide (stA A p.aj[j]!.Name=2) with
   | false=>rfl
   | true =>
    cases wX p p.aj[j]! p.aj[i]! with
    | false=>rfl
    | true=>simp only [Bool.true_and,cond_true,bS];rw [zW (by simp only [List.length_singleton];omega)];rfl
  ·unfold lZ
   simp only []
   show (bif (aF .lss (p.aj.length:Int) (List.length (rX p (stA A)):Int)) then _ else _)=_
   rw [tq,bQ,dF (by omega),cond_false]
 rw [JM hp ho hN hi,hopen,LH hp ho hN b hi,Oc hp hN b ps (ho.pk _ hx).2.2.2.2]
 simp only [bS,gt0]
 unfold EU
 generalize DZ A p.aj[i]! = u
 generalize mZ p A (fun y=>wX p y p.aj[i]!)=o
 generalize zS p A p.aj[i]! = l
 generalize yg A (fun t=>decide (kJ p t p.aj[i]!.Space≤1))=q
 rw [bQ,jr]
 show ((bif decide (A.now<p.aj[i]!.From) then ((app [] [(⟨2,[]⟩:bM)]).bind fun v2=>some v2) else (some [])).bind fun o4=>_)=_
 generalize decide (A.now<p.aj[i]!.From)=c0
 generalize decide (p.aj[i]!.Kind=3)=c3
 rw [Oe (by simp),bS]
 have l1:(([]:List bM) ++ bif c0 then [(⟨2,[]⟩:bM)] else []).length≤1:=by rw [List.nil_append];exact MP
 rw [Oe (Nat.lt_of_le_of_lt l1 (by decide)),bS]
 have l2:((([]:List bM) ++ bif c0 then [(⟨2,[]⟩:bM)] else []) ++ bif !u.isEmpty then [(⟨18,u⟩:bM)] else []).length≤2:=by
  rw [List.length_append];exact Nat.add_le_add l1 MP
 rw [Oe (Nat.lt_of_le_of_lt l2 (by decide)),bS]
 have l3:(((([]:List bM) ++ bif c0 then [(⟨2,[]⟩:bM)] else []) ++ bif !u.isEmpty then [(⟨18,u⟩:bM)] else []) ++ bif !o.isEmpty then [(⟨20,o⟩:bM)] else []).length≤3:=by
  rw [List.length_append];exact Nat.add_le_add l2 MP
 rw [Oe (Nat.lt_of_le_of_lt l3 (by decide)),bS]
 rw [Oe (by rw [List.length_append];exact Nat.lt_of_le_of_lt (Nat.add_le_add l3 MP) (by decide))]
 congr 1
 rw [List.filter_append,show ([(⟨18,u⟩:bM),(⟨20,o⟩:bM),(⟨21,l⟩:bM)].filter fun r=>!r.Names.isEmpty)=(bif !u.isEmpty then [(⟨18,u⟩:bM)] else []) ++ ((bif !o.isEmpty then [(⟨20,o⟩:bM)] else []) ++ (bif !l.isEmpty then [(⟨21,l⟩:bM)] else [])) from by
  rw [List.filter_cons,List.filter_cons,List.filter_cons,List.filter_nil]
  cases u.isEmpty <;> cases o.isEmpty <;> cases l.isEmpty <;> rfl,show (bif c3 then [(⟨17,q⟩:bM)] else []).filter (fun r=>!r.Names.isEmpty)=(bif c3 && !q.isEmpty then [(⟨17,q⟩:bM)] else []) from by
  cases c3 with
  | false=>rfl
  | true=>exact UK]
 simp only [List.nil_append,List.append_assoc]
end
end Go.KB
namespace Go.KB
set_option linter.unusedVariables false
theorem QE {p:GPermitPlan} {A A':AO} (hn:A'.now=A.now) (ht:A'.ts=A.ts) (hp:A'.pp=A.pp) (hb:∀ n,(A'.es n).yY=(A.es n).yY) (hto:∀ n,(A'.es n).xX=(A.es n).xX):({ toR p A with bH:=rX p (stA A') }:af)=toR p A':=by
 unfold toR
 rw [hn,ht,hp]
 simp only [hb,hto]
def Bd (A:AO) (p:GPermitPlan) (E:Str→ah) (i:Nat):AO:={ A with es:=fun s=>bif Cb p i s then E s else A.es s }
section
variable {p:GPermitPlan} {A:AO} {E:Str→ah}
theorem SG {i:Nat} (hi:i<p.aj.length) {n:Str}:stA (Bd A p E (i+1)) n=bif decide (n=p.aj[i]!.Name) then (E n).state else stA (Bd A p E i) n:=by
 show (bif Cb p (i+1) n then E n else A.es n).state=bif decide (n=p.aj[i]!.Name) then (E n).state else (bif Cb p i n then E n else A.es n).state
 rw [G8 hi,BH hi,show decide (p.aj[i].Name=n)=decide (n=p.aj[i].Name) from decide_eq_decide.2 ⟨Eq.symm,Eq.symm⟩]
 cases Cb p i n <;> cases decide (n=p.aj[i].Name) <;> rfl
theorem QF (ho:DN p) {i:Nat} (hi:i<p.aj.length):stA (Bd A p E i) p.aj[i]!.Name=stA A p.aj[i]!.Name:=by
 show (bif Cb p i p.aj[i]!.Name then E p.aj[i]!.Name else A.es p.aj[i]!.Name).state=_
 have:Cb p i p.aj[i]!.Name=false:=by rw [BH hi];exact QG ho hi
 rw [this];rfl
theorem Og (ho:DN p) {i:Nat} (hi:i<p.aj.length) {v:Int} (hv:v=(E p.aj[i]!.Name).state):(rX p (stA (Bd A p E i))).set i v=rX p (stA (Bd A p E (i+1))):=by
 rw [JK ho hi]
 refine zi fun x _=>?_
 rw [SG hi]
 by_cases e:x.Name=p.aj[i]!.Name
 ·rw [dT e,cond_true,cond_true,hv,e]
 ·rw [dF e];rfl
theorem DI (ho:DN p) {i:Nat} (hi:i<p.aj.length) (hv:stA A p.aj[i]!.Name=(E p.aj[i]!.Name).state):rX p (stA (Bd A p E i))=rX p (stA (Bd A p E (i+1))):=by
 refine zi fun x _=>?_
 rw [SG hi]
 by_cases e:x.Name=p.aj[i]!.Name
 ·rw [dT e,cond_true,e,← hv,QF ho hi]
 ·rw [dF e];rfl
theorem Oh:rX p (stA (Bd A p E 0))=rX p (stA A):=zi fun x _=>by
 show (bif Cb p 0 x.Name then E x.Name else A.es x.Name).state=_
 have:Cb p 0 x.Name=false:=by unfold Cb;simp
 rw [this];rfl
theorem QH:rX p (stA (Bd A p E p.aj.length))=rX p (fun n=>(E n).state):=zi fun x hx=>by
 show (bif Cb p p.aj.length x.Name then E x.Name else A.es x.Name).state=_
 rw [JO,yT.2 ⟨x,hx,rfl⟩];rfl
end
section
variable {N:Nat} {p:GPermitPlan} {A:AO} (hp:EZ p) (ho:DN p) (hN:1000000≤N) (b:G6 A)
include hp ho hN in
theorem WC:dU (lD N (toR p A)) N (0,rX p (stA A))=some (rX p (stA (zX p A))):=by
 have hm:=hp.m
 have key:=Be (N:=N) (n:=p.aj.length) (f:=lD N (toR p A)) (fun i=>((i:Int),rX p (stA (Bd A p (fun s=>zY A.now (A.es s)) i)))) (rX p (stA (Bd A p (fun s=>zY A.now (A.es s)) p.aj.length))) (fun i hi=>?_) ?_ (by omega)
 ·rw [Oh,QH] at key
  rw [show ((0:Nat):Int)=0 from rfl] at key
  rw [key]
  congr 1
  refine zi fun x hx=>?_
  show _=(bif lY p x.Name then zY A.now (A.es x.Name) else A.es x.Name).state
  rw [yT.2 ⟨x,hx,rfl⟩];rfl
 ·unfold lD
  simp only []
  show (bif (aF .lss (i:Int) (List.length (rX p (stA (Bd A p (fun s=>zY A.now (A.es s)) i))):Int)) then ((idx (rX p (stA (Bd A p (fun s=>zY A.now (A.es s)) i))) (i:Int)).bind fun v8=>(bif (aF .leq v8 3) then (idx (rX p (fun n=>(A.es n).xX)) (i:Int)) else some 0).bind fun v9=>bif ((aF .leq v8 3)&&(aF .leq v9 A.now)) then ((idx (rX p (stA (Bd A p (fun s=>zY A.now (A.es s)) i))) (i:Int)).bind fun v10=>some (Sum.inl ((IntKind.i64.wrap ((i:Int)+1)),(List.set (rX p (stA (Bd A p (fun s=>zY A.now (A.es s)) i))) (Int.toNat (i:Int)) 6)))) else (some (Sum.inl ((IntKind.i64.wrap ((i:Int)+1)),rX p (stA (Bd A p (fun s=>zY A.now (A.es s)) i)))))) else (some (Sum.inr (rX p (stA (Bd A p (fun s=>zY A.now (A.es s)) i))))))=_
  rw [tq,bQ,dT (by omega),cond_true,Bc hi,bS,Bc hi,QF ho hi,qw (by omega),bS,Int.toNat_natCast]
  simp only [vG]
  cases h1:decide (stA A p.aj[i]!.Name≤3) with
  | false =>
   simp only [cond_false,bS,Bool.false_and]
   rw [DI ho hi (by show stA A _=(zY _ _).state;unfold zY;rw [show decide ((A.es p.aj[i]!.Name).state≤3)=false from h1];rfl)]
  | true =>
   simp only [cond_true,bS,Bool.true_and]
   cases h2:decide ((A.es p.aj[i]!.Name).xX≤A.now) with
   | false =>
    rw [cond_false]
    rw [DI ho hi (by show stA A _=(zY _ _).state;unfold zY;rw [h2,Bool.and_false];rfl)]
   | true =>
    rw [cond_true]
    rw [Og ho hi (by show (6:Int)=(zY _ _).state;unfold zY;rw [show decide ((A.es p.aj[i]!.Name).state≤3)=true from h1,h2];rfl)]
 ·unfold lD
  simp only []
  rw [tq,bQ,dF (by omega),cond_false]
theorem YB {p:GPermitPlan} {B:AO} {n:Str}:((yG p B).es n).yY=(B.es n).yY:=by
 show (bif _ then ({ B.es n with state:=3 }:ah) else B.es n).yY=_
 cases (lY p n&&decide (stA B n=2)&&wY p B (rF p n)) <;> rfl
theorem YC {p:GPermitPlan} {A:AO} {n:Str}:((zX p A).es n).yY=(A.es n).yY:=by
 show (bif lY p n then zY A.now (A.es n) else A.es n).yY=_
 unfold zY
 cases lY p n <;> cases (decide ((A.es n).state≤3)&&decide ((A.es n).xX≤A.now)) <;> rfl
theorem PE {p:GPermitPlan} {A:AO} {n:Str}:((gQ p A).es n).yY=(A.es n).yY:=YB.trans YC
include hp ho hN in
theorem PG {B:AO} (b:G6 B) (hn:B.now=A.now) (ht:B.ts=A.ts) (hpp:B.pp=A.pp) (hb:∀ n,(B.es n).yY=(A.es n).yY) (hto:∀ n,(B.es n).xX=(A.es n).xX):dU (lF N (toR p A)) N (false,0,rX p (stA B))=some (p.aj.any (fun x=>decide (stA B x.Name=2)&&wY p B x),rX p (stA (yG p B))):=by
 have hm:=hp.m
 have key:=Be (N:=N) (n:=p.aj.length) (f:=lF N (toR p A)) (fun i=>((p.aj.take i).any (fun x=>decide (stA B x.Name=2)&&wY p B x),(i:Int),rX p (stA (Bd B p (yG p B).es i)))) ((p.aj.take p.aj.length).any (fun x=>decide (stA B x.Name=2)&&wY p B x),rX p (stA (Bd B p (yG p B).es p.aj.length))) (fun i hi=>?_) ?_ (by omega)
 ·rw [Oh,QH,List.take_length] at key
  exact key
 ·have hx:=qL hi
  have hh:lY p p.aj[i]!.Name=true:=yT.2 ⟨_,hx,rfl⟩
  have hC:({ toR p A with bH:=rX p (stA (Bd B p (yG p B).es i)) }:af)=toR p (Bd B p (yG p B).es i):=QE hn ht hpp (fun n=>by
    show (bif Cb p i n then (yG p B).es n else B.es n).yY=_
    rw [← hb n]
    cases Cb p i n
    ·rfl
    ·exact YB) (fun n=>by
    show (bif Cb p i n then (yG p B).es n else B.es n).xX=_
    rw [← hto n]
    cases Cb p i n
    ·rfl
    ·exact YD)
  have bC:G6 (Bd B p (yG p B).es i):=⟨b.tm,fun s=>by
    show 0≤(bif Cb p i s then (yG p B).es s else B.es s).state∧(bif Cb p i s then (yG p B).es s else B.es s).state≤6
    cases Cb p i s
    ·exact b.st s
    ·exact (b.sus (p:=p)).st s,b.tt,b.pl⟩
  have hla:zS p (Bd B p (yG p B).es i) p.aj[i]! = zS p B p.aj[i]!:=rfl
  have hun:DZ (Bd B p (yG p B).es i) p.aj[i]! = DZ B p.aj[i]!:=by
   unfold DZ
   refine List.filter_congr fun l hl=>?_
   have:=ho.lk _ hx l hl
   have e:stA (Bd B p (yG p B).es i) l=stA B l:=by
    show (bif Cb p i l then (yG p B).es l else B.es l).state=_
    rw [VH ho this.1 this.2.1]
    cases Cb p i l <;> rfl
   rw [e]
  have hany:(p.aj.take (i+1)).any (fun x=>decide (stA B x.Name=2)&&wY p B x)=((p.aj.take i).any (fun x=>decide (stA B x.Name=2)&&wY p B x)||(decide (stA B p.aj[i]!.Name=2)&&wY p B p.aj[i]!)):=by
   rw [List.take_succ_eq_append_getElem hi,List.any_append,BH hi];simp
  have WE:((yG p B).es p.aj[i]!.Name).state=(bif decide (stA B p.aj[i]!.Name=2)&&wY p B p.aj[i]! then 3 else stA B p.aj[i]!.Name):=by
   show (bif lY p p.aj[i]!.Name&&decide (stA B p.aj[i]!.Name=2)&&wY p B (rF p p.aj[i]!.Name) then ({ B.es p.aj[i]!.Name with state:=3 }:ah) else B.es p.aj[i]!.Name).state=_
   rw [hh,ho.Et hx,Bool.true_and]
   cases (decide (stA B p.aj[i]!.Name=2)&&wY p B p.aj[i]!) <;> rfl
  have l1:(zS p B p.aj[i]!).length<2000:=Nat.lt_of_le_of_lt (List.length_filter_le _ _) (Oi hp)
  have l2:(DZ B p.aj[i]!).length<1000:=Nat.lt_of_le_of_lt (List.length_filter_le _ _) (hp.l _ hx)
  have hbad:aF .gtr (IntKind.i64.wrap (((zS p B p.aj[i]!).length:Int)+((DZ B p.aj[i]!).length:Int))) 0=wY p B p.aj[i]!:=by
   rw [w64i (by omega) (by omega),sG]
   unfold wY
   cases hL:zS p B p.aj[i]! with
   | nil =>
    cases hU:DZ B p.aj[i]! with
    | nil=>rfl
    | cons y r=>exact dT (by simp only [List.length_nil,List.length_cons];omega)
   | cons y r=>exact dT (by simp only [List.length_cons];omega)
  unfold lF
  simp only []
  rw [hC,tq,bQ,dT (by omega),cond_true,Bc hi,bS,QF ho hi,LH hp ho hN bC hi,JM hp ho hN hi,hla,hun,qw (by omega),Int.toNat_natCast,jr,hany]
  cases h2:decide (stA B p.aj[i]!.Name=2) with
  | false =>
   simp only [cond_false,bS,Bool.false_and,Bool.or_false]
   rw [DI ho hi (by rw [WE,h2];rfl)]
  | true =>
   simp only [cond_true,bS,Bool.true_and]
   rw [hbad]
   cases hbd:wY p B p.aj[i]! with
   | false =>
    rw [cond_false,Bool.or_false]
    rw [DI ho hi (by rw [WE,h2,hbd];rfl)]
   | true =>
    rw [cond_true,Bool.or_true,Og ho hi (by rw [WE,h2,hbd];rfl)]
 ·unfold lF
  simp only []
  rw [tq,bQ,dF (by omega),cond_false]
theorem UL {R:af} (h1:R.bH.length<1000000) (h2:R.By.length<1000000) (h3:R.To.length<1000000) (h4:R.Tests.length<1000000) (h5:R.nD.length<1000000):kK N R=some R:=by
 have hlim:lim ≥ 1000000:=by decide
 have hc:∀ {l:List Int},l.length<1000000→rG N l=some l:=fun {l} h=>by
  unfold rG
  rw [zW (by simp only [List.length_nil];omega)];rfl
 unfold kK
 rw [hc h1,bS]
 simp only []
 rw [zW (by simp only [List.length_nil];omega),bS,hc h3,bS,zW (by simp only [List.length_nil];omega),bS,zW (by simp only [List.length_nil];omega),bS]
 simp only [List.nil_append]
include hp b in
theorem G9:kK N (toR p A)=some (toR p A):=by
 have h1:=hp.m
 have h2:=hp.s
 have h3:=b.pl
 have e:∀ {β:Type} {F:Str→β},(rX p F).length<1000000:=fun {β F}=>by rw [tq];omega
 have e':∀ {β:Type} {F:Str→β},(MO p F).length<1000000:=fun {β F}=>by rw [Ie];omega
 exact UL (e (F:=stA A)) (e (F:=fun n=>(A.es n).yY)) (e (F:=fun n=>(A.es n).xX)) (e' (F:=fun s=>Ji (A.ts s))) (by show (A.pp.map Jj).length<_;rw [List.length_map];omega)
include hp ho hN b in
theorem Oj:og N (toR p A)=some (toR p (gQ p A)):=by
 unfold og
 rw [G9 hp b,bS]
 show ((dU (lD N (toR p A)) N (0,rX p (stA A))).bind fun TI=>_)=_
 rw [WC hp ho hN,bS]
 have h2:=PG (A:=A) (B:=zX p A) hp ho hN b.exp rfl rfl rfl (fun n=>YC) (fun n=>YF)
 have h3:=PG (A:=A) (B:=gQ p A) hp ho hN b.settle rfl rfl rfl (fun n=>PE) (fun n=>Ig)
 have e3:p.aj.any (fun x=>decide (stA (gQ p A) x.Name=2)&&wY p (gQ p A) x)=false:=by
  rw [Bool.eq_false_iff]
  intro hx
  rw [List.any_eq_true] at hx
  obtain ⟨x,hx,hb⟩:=hx
  rw [Bool.and_eq_true,decide_eq_true_eq] at hb
  rw [BI ho hx hb.1] at hb
  cases hb.2
 have e4:rX p (stA (yG p (gQ p A)))=rX p (stA (gQ p A)):=zi fun x hx=>by
  rcases KW (p:=p) (A:=gQ p A) (s:=x.Name) with ⟨e,_⟩ | ⟨_,e5,e6⟩
  ·exact e
  ·rw [ho.Et hx,BI ho hx e5] at e6;cases e6
 rw [e3,e4] at h3
 change dU _ N (false,0,rX p (stA (zX p A)))=some (_,rX p (stA (gQ p A))) at h2
 generalize p.aj.any (fun x=>decide (stA (zX p A) x.Name=2)&&wY p (zX p A) x)=f2 at h2
 have fin:({ toR p A with bH:=rX p (stA (gQ p A)) }:af)=toR p (gQ p A):=QE rfl rfl rfl (fun n=>PE) (fun n=>Ig)
 obtain ⟨M,rfl⟩:∃ M,N=M+3:=⟨N - 3,by omega⟩
 have step:∀ (st:List Int) (o:Bool×List Int),dU (lF (M+3) (toR p A)) (M+3) (false,0,st)=some o→mF (M+3) (toR p A) (true,st)=some (.inl o):=by
  intro st o ho
  unfold mF
  rw [cond_true,ho];rfl
 have stop:∀ st:List Int,mF (M+3) (toR p A) (false,st)=some (.inr st):=fun st=>rfl
 have hl:dU (mF (M+3) (toR p A)) (M+3) (true,rX p (stA (zX p A)))=some (rX p (stA (gQ p A))):=by
  cases f2 with
  | false=>simp only [dU,step _ _ h2,stop]
  | true=>simp only [dU,step _ _ h2,step _ _ h3,stop]
 rw [hl,bS,fin]
end
end Go.KB
namespace Go.KB
set_option linter.unusedVariables false
theorem any_map {α β:Type} {g:α→Bool} {h:α→β} {l:List α}:(!((l.filter g).map h).isEmpty)=l.any g:=by
 induction l with
 | nil=>rfl
 | cons x r ih =>
  rw [List.filter_cons,List.any_cons]
  cases hg:g x with
  | true=>rfl
  | false=>rw [Bool.false_or];exact ih
theorem PI {α:Type} [Inhabited α] {g:α→Bool} {l:List α}:((List.range l.length).any fun k=>g l[k]!)=l.any g:=by
 rw [Bool.eq_iff_iff,List.any_eq_true,List.any_eq_true]
 constructor
 ·rintro ⟨k,hk,h⟩;rw [List.mem_range] at hk;exact ⟨_,qL hk,h⟩
 ·rintro ⟨x,hx,h⟩
  obtain ⟨k,hk,rfl⟩:=List.getElem_of_mem hx
  exact ⟨k,List.mem_range.2 hk,by rw [BH hk];exact h⟩
section
variable {β:Type} {p:GPermitPlan} {F:Str→β}
theorem He (ho:DN p) {i:Nat} (hi:i<p.aj.length):(rX p F).set i (F p.aj[i]!.Name)=rX p F:=by
 rw [JK ho hi]
 refine zi fun x _=>?_
 by_cases e:x.Name=p.aj[i]!.Name
 ·rw [dT e,cond_true,e]
 ·rw [dF e];rfl
theorem YG (ho:DN p) {A:AO} {i:Nat} (hi:i<p.aj.length) {e:ah}:toR p (UM A p.aj[i]!.Name e)={ toR p A with bH:=(rX p (stA A)).set i e.state,By:=(rX p fun n=>(A.es n).yY).set i e.yY,To:=(rX p fun n=>(A.es n).xX).set i e.xX }:=by
 rw [JK ho hi,JK ho hi,JK ho hi]
 have h:∀ {γ:Type} (f:ah→γ),(rX p fun n=>f ((UM A p.aj[i]!.Name e).es n))=rX p fun n=>bif decide (n=p.aj[i]!.Name) then f e else f (A.es n):=fun f=>zi fun x _=>by
  show f (bif decide (x.Name=p.aj[i]!.Name) then e else A.es x.Name)=_
  cases decide (x.Name=p.aj[i]!.Name) <;> rfl
 show (⟨p,A.now,_,_,_,_,_⟩:af)=⟨p,A.now,_,_,_,_,_⟩
 congr 1
 ·exact h (fun e=>e.state)
 ·exact h (fun e=>e.yY)
 ·exact h (fun e=>e.xX)
theorem toR_be (ho:DN p) {A:AO} {i:Nat} (hi:i<p.aj.length) {k:Int}:toR p (OH A p.aj[i]!.Name k)={ toR p A with bH:=(rX p (stA A)).set i k }:=by
 unfold OH
 rw [YG ho hi]
 have h1:=He (F:=fun n=>(A.es n).yY) ho hi
 have h2:=He (F:=fun n=>(A.es n).xX) ho hi
 rw [h1,h2];rfl
end
section
variable {N:Nat} {p:GPermitPlan} {A:AO} (hp:EZ p) (ho:DN p) (hN:1000000≤N) (b:G6 A)
include hN b in
theorem PK {n:Str}:qy N (toR p A) n=some (Gg (fun q=>decide (q.1=n)) A.pp):=by
 have hb:=b.pl
 unfold qy
 refine yA (fun i hi=>?_) ?_ (by omega)
 ·unfold qA
  show (bif (aF .lss (i:Int) (List.length (A.pp.map Jj):Int)) then ((idx (A.pp.map Jj) (i:Int)).bind fun v2=>bif (yK .eql v2.Name n) then (some (Sum.inr (Sum.inr (i:Int)))) else (some (Sum.inl (IntKind.i64.wrap ((i:Int)+1))))) else (some (Sum.inr (Sum.inl ()))))=_
  rw [List.length_map,bQ,dT (by omega),cond_true,ji (by rw [List.length_map];exact hi),List.getElem_map,bS,qM,qw (by omega)];rfl
 ·unfold qA
  show (bif (aF .lss (A.pp.length:Int) (List.length (A.pp.map Jj):Int)) then _ else _)=_
  rw [List.length_map,bQ,dF (by omega),cond_false]
include hp hN in
theorem PL {s:Str} {k:Int}:lC N (toR p A) s k=some ((List.range p.aj.length).any fun j=>!decide ((j:Int)=k)&&(decide (stA A p.aj[j]!.Name=2)&&(decide (p.aj[j]!.Kind=1)&&decide (p.aj[j]!.Space=s)))):=by
 have hm:=hp.m
 have h:=Ol (l:=List.range p.aj.length) (N:=N) (f:=mM N (toR p A) s k) (g:=fun j=>!decide ((j:Int)=k)&&(decide (stA A p.aj[j]!.Name=2)&&(decide (p.aj[j]!.Kind=1)&&decide (p.aj[j]!.Space=s)))) (fun i hi=>?_) ?_ (by rw [List.length_range];omega)
 ·exact h
 ·rw [List.length_range] at hi
  unfold mM
  show (bif (aF .lss (i:Int) (List.length (rX p (stA A)):Int)) then ((idx p.aj (i:Int)).bind fun v2=>(bif (aF .neq (i:Int) k) then (idx (rX p (stA A)) (i:Int)) else some 0).bind fun v3=>bif ((((aF .neq (i:Int) k)&&(aF .eql v3 2))&&(aF .eql v2.Kind 1))&&(yK .eql v2.Space s)) then (some (Sum.inr (Sum.inr true))) else (some (Sum.inl (IntKind.i64.wrap ((i:Int)+1))))) else (some (Sum.inr (Sum.inl ()))))=_
  rw [tq,bQ,dT (by omega),cond_true,zk hi,bS,Bc hi,uK,qw (by omega),List.getElem_range]
  simp only [jr,qM]
  cases decide ((i:Int)=k) with
  | true=>rfl
  | false=>simp only [Bool.not_false,cond_true,bS,Bool.true_and,Bool.and_assoc]
 ·unfold mM
  rw [List.length_range]
  show (bif (aF .lss (p.aj.length:Int) (List.length (rX p (stA A)):Int)) then _ else _)=_
  rw [tq,bQ,dF (by omega),cond_false]
include hp hN in
theorem SH {s:Str}:lC N (toR p A) s (-1)=some (wG p A s):=by
 rw [PL hp hN]
 congr 1
 unfold wG mZ
 rw [any_map,← PI (l:=p.aj)]
 congr 1
include hp ho hN in
theorem WG {i:Nat} (hi:i<p.aj.length) {s:Str}:lC N (toR p A) s (i:Int)=some (!(mZ p A (fun z=>decide (z.Kind=1)&&decide (z.Space=s) && !decide (z.Name=p.aj[i]!.Name))).isEmpty):=by
 rw [PL hp hN]
 congr 1
 unfold mZ
 rw [any_map,← PI (l:=p.aj),Bool.eq_iff_iff,List.any_eq_true,List.any_eq_true]
 have e:∀ j,j ∈ List.range p.aj.length→decide ((j:Int)=(i:Int))=decide (p.aj[j]!.Name=p.aj[i]!.Name):=fun j hj=>by
  rw [List.mem_range] at hj
  exact decide_eq_decide.2 ⟨fun h=>by rw [show j=i by omega],fun h=>by rw [ho.pd j i hj hi h]⟩
 constructor
 ·rintro ⟨j,hj,h⟩
  refine ⟨j,hj,?_⟩
  rw [e j hj] at h
  simp only [Bool.and_eq_true] at h ⊢
  exact ⟨h.2.1,h.2.2,h.1⟩
 ·rintro ⟨j,hj,h⟩
  refine ⟨j,hj,?_⟩
  rw [e j hj]
  simp only [Bool.and_eq_true] at h ⊢
  exact ⟨h.2.2,h.1,h.2.1⟩
theorem UN {op st:Int} {l:List Int} (h0:0≤op) (h12:op<12) (h:wH op=some l):xR N op st=some (l.contains st):=by
 rcases EW h0 h12 with e | e | e | e | e | e | e | e | e | e | e | e <;> subst e <;> first | (cases h;done) | (cases h;unfold xR;simp only [jr,Int.reduceEq,decide_true,decide_false,cond_true,cond_false];congr 1;rw [Bool.eq_iff_iff];simp [or_assoc])
def YH (p:GPermitPlan) (A:AO) (sp s:Str):ah:=bif decide (stA A s=2)&&(!decide ((rF p s).Kind=5)&&decide (kJ p (rF p s).Space sp≤1)) then { A.es s with state:=3 } else A.es s
def YI (p:GPermitPlan) (A:AO) (sp:Str):AO:={ A with es:=fun s=>bif lY p s&&decide (stA A s=2)&&(!decide ((rF p s).Kind=5)&&decide (kJ p (rF p s).Space sp≤1)) then { A.es s with state:=3 } else A.es s }
theorem WH {α:Type} {l:List α} {g:α→Bool}:decide (Gg g l<0) = !l.any g:=Eu
include hp ho hN in
theorem PN {x:GEvent} (e:x.Op=7∨x.Op=10):iG N (toR p A) x=some (toR p (vX p A x).1,⟨(vX p A x).2.2,(vX p A x).2.1⟩):=by
  have hs:=hp.s
  have hm:=hp.m
  unfold iG
  rcases e with e | e
  · have hR:vX p A x=SI p A x:=by
      unfold vX wH vH;simp only [e,Int.reduceEq,if_false,if_true]
    rw [hR]
    unfold SI
    simp only [e,jr,Int.reduceEq,decide_true,decide_false,cond_true,cond_false,Bool.or_self,Bool.false_and,bS]
    show ((lG N p x.Space).bind fun v10=>_)=_
    rw [yB (by omega) hN,bS,bQ,WH]
    show (bif !vW p x.Space then _ else _)=_
    cases hh:vW p x.Space with
    | false=>rfl
    | true =>
      obtain ⟨i,hi,e1,e2⟩:=ixS hh
      have hn:p.bG[i]!.Name=x.Space:=by rw [e2];exact (JL hh).2
      simp only [Bool.not_true,cond_false,bQ,sG]
      cases (decide (x.nG<0)||decide (1000<x.nG)||decide (x.EY<0)||decide (1000<x.EY)) with
      | true=>rfl
      | false =>
        rw [cond_false,cond_false,e1]
        show ((idx (MO p fun s=>Ji (A.ts s)) (i:Int)).bind fun v13=>_)=_
        rw [Yx hi,bS,Int.toNat_natCast]
        show some (({ toR p A with Tests:=(MO p fun s=>Ji (A.ts s)).set i (⟨true,A.now,x.nG,x.EY⟩:dL) }:af),(⟨0,[]⟩:aO))=some (toR p { A with ts:=fun s=>bif decide (s=x.Space) then some ⟨A.now,x.nG,x.EY⟩ else A.ts s },⟨0,[]⟩)
        rw [Z4 ho hi,hn]
        congr 2
        show (⟨p,A.now,_,_,_,_,_⟩:af)=⟨p,A.now,_,_,_,_,_⟩
        congr 1
        refine WB fun s _=>?_
        show (bif decide (s.Name=x.Space) then _ else Ji (A.ts s.Name))=Ji (bif decide (s.Name=x.Space) then some ⟨A.now,x.nG,x.EY⟩ else A.ts s.Name)
        cases decide (s.Name=x.Space) <;> rfl
  · have hR:vX p A x=Hf p A x:=by
      unfold vX wH vH;simp only [e,Int.reduceEq,if_false,if_true]
    rw [hR]
    unfold Hf
    simp only [e,jr,Int.reduceEq,decide_true,decide_false,cond_true,cond_false,Bool.or_self,Bool.false_and,bS]
    show ((lG N p x.Space).bind fun v10=>_)=_
    rw [yB (by omega) hN,bS,bQ,WH]
    show (bif !vW p x.Space then _ else _)=_
    cases hh:vW p x.Space with
    | false=>rfl
    | true =>
      simp only [Bool.not_true,cond_false]
      have key:=Be (N:=N) (n:=p.aj.length) (f:=iY N (toR p A) x) (fun i=>((i:Int),rX p (stA (Bd A p (YH p A x.Space) i)))) (rX p (stA (Bd A p (YH p A x.Space) p.aj.length))) (fun i hi=>?_) ?_ (by omega)
      · rw [Oh, QH, show ((0 : Nat) : Int) = 0 from rfl] at key
        have key2:dU (iY N (toR p A) x) N (0,rX p (stA A))=some (rX p (stA (YI p A x.Space))):=key.trans (congrArg some (zi fun y hy=>by
          show (YH p A x.Space y.Name).state=(bif lY p y.Name&&decide (stA A y.Name=2)&&(!decide ((rF p y.Name).Kind=5)&&decide (kJ p (rF p y.Name).Space x.Space≤1)) then ({ A.es y.Name with state:=3 }:ah) else A.es y.Name).state
          rw [yT.2 ⟨y,hy,rfl⟩,Bool.true_and];rfl))
        show ((dU (iY N (toR p A) x) N (0,rX p (stA A))).bind fun Xk=>_)=_
        rw [key2,bS]
        have h1:∀ {γ:Type} (f:ah→γ),(∀ e k,f { e with state:=k }=f e)→∀ n,f ((YI p A x.Space).es n)=f (A.es n):=fun f hf n=>by
          show f (bif lY p n&&decide (stA A n=2)&&(!decide ((rF p n).Kind=5)&&decide (kJ p (rF p n).Space x.Space≤1)) then { A.es n with state:=3 } else A.es n)=_
          cases (lY p n&&decide (stA A n=2)&&(!decide ((rF p n).Kind=5)&&decide (kJ p (rF p n).Space x.Space≤1)))
          · rfl
          · exact hf _ _
        show some (({ toR p A with bH:=rX p (stA (YI p A x.Space)) }:af),(⟨0,[]⟩:aO))=some (toR p (YI p A x.Space),⟨0,[]⟩)
        rw [QE (A:=A) (A':=YI p A x.Space) rfl rfl rfl (h1 (fun e=>e.yY) fun _ _=>rfl) (h1 (fun e=>e.xX) fun _ _=>rfl)]
      · have hx:=qL hi
        have hsp:vW p p.aj[i]!.Space=true:=(ho.pk _ hx).2.2.2.2
        unfold iY
        simp only []
        rw [tq,bQ,dT (by omega),cond_true]
        show ((idx p.aj (i:Int)).bind fun v45=>_)=_
        rw [zk hi,bS,Bc hi,QF ho hi,bS,show lI N (toR p A).P p.aj[i]!.Space x.Space=some (kJ p p.aj[i]!.Space x.Space) from Ak hp hsp hh hN,qw (by omega),Int.toNat_natCast]
        simp only [jr,uK,vG,bS]
        have hE:∀ c,(decide (stA A p.aj[i]!.Name=2)&&(!decide (p.aj[i]!.Kind=5)&&decide (kJ p p.aj[i]!.Space x.Space≤1)))=c→(YH p A x.Space p.aj[i]!.Name).state=bif c then 3 else stA A p.aj[i]!.Name:=fun c hc=>by
          unfold YH
          rw [ho.Et hx,hc]
          cases c <;> rfl
        cases h2:decide (stA A p.aj[i]!.Name=2) with
        | false =>
          simp only [Bool.false_and,cond_false,bS]
          rw [DI ho hi (hE false (by rw [h2];rfl)).symm]
        | true =>
          cases h5:decide (p.aj[i]!.Kind=5) with
          | true =>
            simp only [Bool.not_true,Bool.and_false,Bool.false_and,cond_false,bS]
            rw [DI ho hi (hE false (by rw [h2,h5];rfl)).symm]
          | false =>
            cases hd:decide (kJ p p.aj[i]!.Space x.Space≤1) with
            | false =>
              simp only [Bool.not_false,Bool.and_true,Bool.true_and,cond_true,cond_false,bS,hd]
              rw [DI ho hi (hE false (by rw [h2,h5,hd];rfl)).symm]
            | true =>
              simp only [Bool.not_false,Bool.and_true,Bool.true_and,cond_true,bS,hd]
              rw [Og (v:=3) ho hi (hE true (by rw [h2,h5,hd];rfl)).symm]
      · unfold iY
        simp only []
        rw [tq,bQ,dF (by omega),cond_false]
end
end Go.KB
namespace Go.KB
set_option linter.unusedVariables false
theorem SK : ∀ (x y : Str), Op.bytesLess x y = decide (x < y)
 | [],[]=>by simp [Op.bytesLess]
 | _ :: _,[]=>by simp [Op.bytesLess]
 | [],_ :: _=>by simp [Op.bytesLess]
 | a :: x,b :: y=>by
  rw [Op.bytesLess,SK x y]
  simp only [List.cons_lt_cons_iff]
  by_cases h1:a<b <;> by_cases h2:a=b <;> by_cases h3:x<y <;> simp [h1,h2,h3]
theorem SL (a b:Str):yK .lss a b=decide (a<b):=SK a b
def IC (l:List (Str×Str)) (n:Str):Nat:=l.findIdx fun q=>!decide (q.1<n)
theorem UO {l:List (Str×Str)} {n:Str}:IC l n≤l.length:=List.findIdx_le_length
theorem YJ {n s:Str}:∀ {l:List (Str×Str)},IE l n s=l.take (IC l n) ++ (n,s) :: l.drop (IC l n)
 | []=>rfl
 | q :: r=>by
  unfold IE IC
  rw [List.findIdx_cons]
  cases decide (q.1<n) with
  | false=>rfl
  | true =>
   simp only [Bool.not_true,cond_true,cond_false]
   rw [List.take_succ_cons,List.drop_succ_cons,List.cons_append]
   exact congrArg _ YJ
theorem YK {n : Str} : ∀ {l : List (Str × Str)}, l.Pairwise (fun a b => a.1 < b.1) → l.any (fun q => decide (q.1 = n)) = true → l.filter (fun q => !decide (q.1 = n)) = l.take (l.findIdx fun q => decide (q.1 = n)) ++ l.drop ((l.findIdx fun q => decide (q.1 = n)) + 1)
  | [],_,h=>by cases h
  | q :: r,hp,h=>by
    rw [List.findIdx_cons,List.filter_cons]
    by_cases e:q.1=n
    · rw [dT e]
      simp only [Bool.not_true,Bool.false_eq_true,if_false,cond_true,Nat.zero_add,List.take_zero,List.nil_append,List.drop_succ_cons,List.drop_zero]
      refine List.filter_eq_self.2 fun a ha=>?_
      have:=(List.pairwise_cons.1 hp).1 a ha
      rw [e] at this
      rw [dF (fun h2=>by rw [h2] at this;exact List.lt_irrefl _ this)];rfl
    · rw [dF e]
      simp only [Bool.not_false,if_true,cond_false,List.take_succ_cons,List.drop_succ_cons,List.cons_append]
      rw [YK (List.pairwise_cons.1 hp).2 (by rw [List.any_cons,dF e,Bool.false_or] at h;exact h)]
section
variable {N:Nat} {p:GPermitPlan} {A:AO} (hp:EZ p) (ho:DN p) (hN:1000000≤N) (b:G6 A)
include hN b in
theorem WI (hpp:A.pp.Pairwise (fun a b=>a.1<b.1)) {x:GEvent} (e:x.Op=9):iG N (toR p A) x=some (toR p (vX p A x).1,⟨(vX p A x).2.2,(vX p A x).2.1⟩):=by
 have hlim:lim ≥ 10000000:=by decide
 have hb:=b.pl
 unfold iG
 have hR:vX p A x=Hg A x:=by
  unfold vX wH vH;simp only [e,Int.reduceEq,if_false,if_true]
 rw [hR]
 unfold Hg
 simp only [e,jr,Int.reduceEq,decide_true,decide_false,cond_true,cond_false,Bool.false_or,Bool.true_and]
 rw [zT (by omega),bS]
 cases lm x.Person with
 | false=>rfl
 | true =>
  simp only [Bool.not_true,cond_false]
  rw [PK hN b,bS,bQ,WH]
  show (bif !zl A x.Person then _ else _)=_
  cases hi:zl A x.Person with
  | false=>rfl
  | true =>
   simp only [Bool.not_true,cond_false]
   have hj:A.pp.findIdx (fun q=>decide (q.1=x.Person))<A.pp.length:=List.findIdx_lt_length.2 (by
    unfold zl at hi;rw [List.any_eq_true] at hi;exact hi)
   have hout:=YK hpp hi
   rw [Bh hj]
   generalize hk:A.pp.findIdx (fun q=>decide (q.1=x.Person))=k at hj hout
   rw [qw (by omega)]
   show ((L9 (A.pp.map Jj) 0 (k:Int)).bind fun v5=>(app ([]:(List eP)) v5).bind fun v6=>(L9 (A.pp.map Jj) ((k+1:Nat):Int) (List.length (A.pp.map Jj):Int)).bind fun v7=>(app v6 v7).bind fun v8=>some (({ toR p A with nD:=v8 }:af),(⟨0,[]⟩:aO)))=_
   have e0:L9 (A.pp.map Jj) 0 (k:Int)=some ((A.pp.map Jj).take k):=KX (a:=0) (Nat.zero_le _) (by rw [List.length_map];omega)
   have e1:L9 (A.pp.map Jj) ((k+1:Nat):Int) (List.length (A.pp.map Jj):Int)=some ((A.pp.map Jj).drop (k+1)):=by
    rw [KX (by rw [List.length_map];omega) (Nat.le_refl _),List.take_length]
   rw [e0,bS,zW (by simp;omega),bS,e1,bS,List.nil_append,zW (by simp;omega),bS,← List.map_take,← List.map_drop,← List.map_append,← hout]
   rfl
include hp ho hN b in
theorem WJ (hpp:A.pp.Pairwise (fun a b=>a.1<b.1)) {x:GEvent} (e:x.Op=8):iG N (toR p A) x=some (toR p (vX p A x).1,⟨(vX p A x).2.2,(vX p A x).2.1⟩):=by
  have hlim:lim ≥ 10000000:=by decide
  have hb:=b.pl
  have hs:=hp.s
  have hm:=hp.m
  unfold iG
  have hR:vX p A x=Hl p A x:=by
    unfold vX wH vH;simp only [e,Int.reduceEq,if_false,if_true]
  rw [hR]
  unfold Hl
  simp only [e,jr,Int.reduceEq,decide_true,decide_false,cond_true,cond_false,Bool.true_or,Bool.true_and]
  rw [zT (by omega),bS]
  cases lm x.Person with
  | false=>rfl
  | true =>
    simp only [Bool.not_true,cond_false]
    show ((lG N p x.Space).bind fun v10=>_)=_
    rw [yB (by omega) hN,bS,bQ,WH]
    show (bif !vW p x.Space then _ else _)=_
    cases hh:vW p x.Space with
    | false=>rfl
    | true =>
      simp only [Bool.not_true,cond_false]
      obtain ⟨i,hi,e1,e2⟩:=ixS hh
      have hlt:=WH (l:=A.pp) (g:=fun q=>decide (q.1=x.Person))
      rw [PK hN b,bS,Am,show decide (Gg (fun q=>decide (q.1=x.Person)) A.pp ≥ 0)=zl A x.Person from by
        unfold zl
        cases hy:A.pp.any (fun q=>decide (q.1=x.Person)) with
        | true=>rw [hy] at hlt;simp at hlt;exact dT (by omega)
        | false=>rw [hy] at hlt;simp at hlt;exact dF (by omega)]
      cases zl A x.Person with
      | true=>rfl
      | false =>
        rw [cond_false,cond_false,e1]
        show ((idx p.bG (i:Int)).bind fun v17=>_)=_
        rw [zk hi,bS,e2,SH hp hN]
        have hc:(bif (yx p x.Space).dm then some (wG p A x.Space) else some false)=some ((yx p x.Space).dm&&wG p A x.Space):=by cases (yx p x.Space).dm <;> rfl
        rw [hc,bS,show ((yx p x.Space).dm && !((yx p x.Space).dm&&wG p A x.Space))=((yx p x.Space).dm && !wG p A x.Space) from by cases (yx p x.Space).dm <;> rfl]
        cases ((yx p x.Space).dm && !wG p A x.Space) with
        | true=>rfl
        | false =>
          rw [cond_false,cond_false]
          rw [CW (f:=kV N (toR p A) x) p.aj [] (fun y=>decide (stA A y.Name=2)&&(decide (y.Kind=3)&&decide (kJ p y.Space x.Space≤1))) (fun y=>y.Name) (fun a i=>(a,i)) (fun a=>a) (fun j hj acc hacc=>?_) (fun acc=>?_) (by omega),bS,gt0]
          · show (bif !(mZ p A (fun y => decide (y.Kind = 3) && decide (kJ p y.Space x.Space ≤ 1))).isEmpty then some (toR p A, (⟨17, mZ p A (fun y => decide (y.Kind = 3) && decide (kJ p y.Space x.Space ≤ 1))⟩ : aO)) else _) = _
            cases (mZ p A (fun y=>decide (y.Kind=3)&&decide (kJ p y.Space x.Space≤1))).isEmpty with
            | false=>rfl
            | true =>
              simp only [Bool.not_true,cond_false]
              have hl1:dU (kW N (toR p A) x) N 0=some (IC A.pp x.Person:Int):=by
                refine KY (n:=IC A.pp x.Person) (fun _=>(IC A.pp x.Person:Int)) (fun j hj=>.inl ⟨?_,rfl⟩) ?_ (by have:=UO (l:=A.pp) (n:=x.Person);omega)
                · have hjl:j<A.pp.length:=Nat.lt_of_lt_of_le hj UO
                  have hn:=List.not_of_lt_findIdx (p:=fun q:Str×Str=>!decide (q.1<x.Person)) (xs:=A.pp) (i:=j) hj
                  unfold kW
                  show ((bif (aF .lss (j:Int) (List.length (A.pp.map Jj):Int)) then (idx (A.pp.map Jj) (j:Int)) else some (⟨[],[]⟩:eP)).bind fun v30=>bif ((aF .lss (j:Int) (List.length (A.pp.map Jj):Int))&&(yK .lss v30.Name x.Person)) then (some (Sum.inl (IntKind.i64.wrap ((j:Int)+1)))) else (some (Sum.inr (j:Int))))=_
                  rw [List.length_map,bQ,dT (by omega),cond_true,ji (by rw [List.length_map];exact hjl),List.getElem_map,bS,SL,qw (by omega)]
                  show (bif true&&decide (A.pp[j].1<x.Person) then _ else _)=_
                  have hn':decide (A.pp[j].1<x.Person)=true:=by simpa using hn
                  rw [hn'];rfl
                · unfold kW
                  show ((bif (aF .lss (IC A.pp x.Person:Int) (List.length (A.pp.map Jj):Int)) then (idx (A.pp.map Jj) (IC A.pp x.Person:Int)) else some (⟨[],[]⟩:eP)).bind fun v30=>bif ((aF .lss (IC A.pp x.Person:Int) (List.length (A.pp.map Jj):Int))&&(yK .lss v30.Name x.Person)) then (some (Sum.inl (IntKind.i64.wrap ((IC A.pp x.Person:Int)+1)))) else (some (Sum.inr (IC A.pp x.Person:Int))))=_
                  rw [List.length_map,bQ]
                  by_cases hl:IC A.pp x.Person<A.pp.length
                  · rw [dT (by omega), cond_true, ji (by rw [List.length_map]; exact hl), List.getElem_map, bS, SL]
                    have hf:=List.findIdx_getElem (p:=fun q:Str×Str=>!decide (q.1<x.Person)) (xs:=A.pp) (w:=hl)
                    show (bif true&&decide (A.pp[IC A.pp x.Person].1<x.Person) then _ else _)=_
                    have hf':decide (A.pp[IC A.pp x.Person].1<x.Person)=false:=by rw [Bool.not_eq_true'] at hf;exact hf
                    rw [hf'];rfl
                  · rw [dF (by omega)];rfl
              rw [hl1,bS]
              have hk:=UO (l:=A.pp) (n:=x.Person)
              have hins:=YJ (l:=A.pp) (n:=x.Person) (s:=x.Space)
              generalize IC A.pp x.Person=k at hk hins
              show ((L9 (A.pp.map Jj) 0 (k:Int)).bind fun v34=>(app ([]:(List eP)) v34).bind fun v35=>(app v35 [(⟨x.Person,x.Space⟩:eP)]).bind fun v36=>(L9 (A.pp.map Jj) (k:Int) (List.length (A.pp.map Jj):Int)).bind fun v37=>(app v36 v37).bind fun v38=>some (({ toR p A with nD:=v38 }:af),(⟨0,[]⟩:aO)))=_
              have s0:L9 (A.pp.map Jj) 0 (k:Int)=some ((A.pp.map Jj).take k):=KX (a:=0) (Nat.zero_le _) (by rw [List.length_map];omega)
              have s1:L9 (A.pp.map Jj) (k:Int) (List.length (A.pp.map Jj):Int)=some ((A.pp.map Jj).drop k):=by
                rw [KX (by rw [List.length_map];omega) (Nat.le_refl _),List.take_length]
              rw [s0,bS,zW (by simp;omega),bS,zW (by simp;omega),bS,s1,bS,zW (by simp;omega),bS]
              show _=some (toR p { A with pp:=IE A.pp x.Person x.Space },(⟨0,[]⟩:aO))
              rw [hins]
              congr 2
              show (⟨p,A.now,_,_,_,_,_⟩:af)=⟨p,A.now,_,_,_,_,_⟩
              congr 1
              rw [List.map_append,List.map_cons,List.map_take,List.map_drop,List.nil_append,List.append_assoc];rfl
          · simp only [List.length_nil] at hacc
            unfold kV
            simp only []
            show (bif (aF .lss (j:Int) (List.length (rX p (stA A)):Int)) then ((idx p.aj (j:Int)).bind fun v21=>(idx (rX p (stA A)) (j:Int)).bind fun v22=>(bif ((aF .eql v22 2)&&(aF .eql v21.Kind 3)) then (lI N p v21.Space x.Space) else some 0).bind fun v23=>bif (((aF .eql v22 2)&&(aF .eql v21.Kind 3))&&(aF .leq v23 1)) then ((app acc [v21.Name]).bind fun v24=>some (Sum.inl (v24,(IntKind.i64.wrap ((j:Int)+1))))) else (some (Sum.inl (acc,(IntKind.i64.wrap ((j:Int)+1)))))) else (some (Sum.inr acc)))=_
            have hx:=qL hj
            rw [tq,bQ,dT (by omega),cond_true,zk hj,bS,Bc hj,bS,Ak hp (ho.pk _ hx).2.2.2.2 hh hN,qw (by omega),← BH hj]
            simp only [jr,vG]
            cases decide (stA A p.aj[j]!.Name=2) with
            | false=>rfl
            | true =>
              cases decide (p.aj[j]!.Kind=3) with
              | false=>rfl
              | true =>
                simp only [Bool.true_and,cond_true,bS]
                cases decide (kJ p p.aj[j]!.Space x.Space≤1) with
                | false=>rfl
                | true=>simp only [cond_true];rw [zW (by simp only [List.length_singleton];omega)];rfl
          · unfold kV
            simp only []
            show (bif (aF .lss (p.aj.length:Int) (List.length (rX p (stA A)):Int)) then _ else _)=_
            rw [tq,bQ,dF (by omega),cond_false]
end
end Go.KB
namespace Go.KB
set_option linter.unusedVariables false
section
variable {N:Nat} {p:GPermitPlan} {A:AO} (hp:EZ p) (ho:DN p) (hN:1000000≤N) (b:G6 A)
include hp hN in
theorem UQ {y:aG} {R:aO}:dU (mD N (toR p A) ((⟨(⟨[],[],[],0⟩:GPermitPlan),0,[],[],[],[],[]⟩:af),R,rX p (stA A),rX p (fun n=>(A.es n).yY),rX p (fun n=>(A.es n).xX),MO p (fun s=>Ji (A.ts s))) y) N ([],0)=some (mZ p A (fun z=>DR z.Locks y.Name)):=by
 have hm:=hp.m
 have hlim:lim ≥ 10000000:=by decide
 rw [CW (f:=mD N (toR p A) ((⟨(⟨[],[],[],0⟩:GPermitPlan),0,[],[],[],[],[]⟩:af),R,rX p (stA A),rX p (fun n=>(A.es n).yY),rX p (fun n=>(A.es n).xX),MO p (fun s=>Ji (A.ts s))) y) p.aj [] (fun z=>decide (stA A z.Name=2)&&DR z.Locks y.Name) (fun z=>z.Name) (fun a i=>(a,i)) (fun a=>a) (fun j hj acc hacc=>?_) (fun acc=>?_) (by omega)]
 ·rfl
 ·simp only [List.length_nil] at hacc
  have hl:=hp.l _ (qL hj)
  unfold mD
  simp only []
  rw [tq,bQ,dT (by omega),cond_true,qw (by omega),← BH hj]
  have inner:dU (kZ N (toR p A) ((⟨(⟨[],[],[],0⟩:GPermitPlan),0,[],[],[],[],[]⟩:af),R,rX p (stA A),rX p (fun n=>(A.es n).yY),rX p (fun n=>(A.es n).xX),MO p (fun s=>Ji (A.ts s))) y (acc,(j:Int))) N (acc,0)=some (bif decide (stA A p.aj[j]!.Name=2)&&DR p.aj[j]!.Locks y.Name then acc ++ [p.aj[j]!.Name] else acc):=by
   have key:∀ k i,i+k=p.aj[j]!.Locks.length→∀ M,k<M→dU (kZ N (toR p A) ((⟨(⟨[],[],[],0⟩:GPermitPlan),0,[],[],[],[],[]⟩:af),R,rX p (stA A),rX p (fun n=>(A.es n).yY),rX p (fun n=>(A.es n).xX),MO p (fun s=>Ji (A.ts s))) y (acc,(j:Int))) M (acc,(i:Int))=some (bif decide (stA A p.aj[j]!.Name=2)&&DR (p.aj[j]!.Locks.drop i) y.Name then acc ++ [p.aj[j]!.Name] else acc):=by
    intro k
    induction k with
    | zero =>
     intro i hi M hM
     obtain ⟨M,rfl⟩:∃ m,M=m+1:=⟨M - 1,by omega⟩
     have e:kZ N (toR p A) ((⟨(⟨[],[],[],0⟩:GPermitPlan),0,[],[],[],[],[]⟩:af),R,rX p (stA A),rX p (fun n=>(A.es n).yY),rX p (fun n=>(A.es n).xX),MO p (fun s=>Ji (A.ts s))) y (acc,(j:Int)) (acc,(i:Int))=some (.inr acc):=by
      unfold kZ
      show ((idx p.aj (j:Int)).bind fun v43=>_)=_
      rw [zk hj,bS]
      simp only []
      rw [bQ,dF (by omega),cond_false]
     simp only [dU,e]
     rw [List.drop_eq_nil_of_le (by omega),show DR [] y.Name=false from rfl,Bool.and_false];rfl
    | succ k ih =>
     intro i hi M hM
     obtain ⟨M,rfl⟩:∃ m,M=m+1:=⟨M - 1,by omega⟩
     have hil:i<p.aj[j]!.Locks.length:=by omega
     have e:kZ N (toR p A) ((⟨(⟨[],[],[],0⟩:GPermitPlan),0,[],[],[],[],[]⟩:af),R,rX p (stA A),rX p (fun n=>(A.es n).yY),rX p (fun n=>(A.es n).xX),MO p (fun s=>Ji (A.ts s))) y (acc,(j:Int)) (acc,(i:Int))=bif decide (stA A p.aj[j]!.Name=2)&&decide (p.aj[j]!.Locks[i]=y.Name) then some (.inr (acc ++ [p.aj[j]!.Name])) else some (.inl (acc,((i+1:Nat):Int))):=by
      unfold kZ
      show ((idx p.aj (j:Int)).bind fun v43=>bif (aF .lss (i:Int) (List.length v43.Locks:Int)) then ((idx (rX p (stA A)) (j:Int)).bind fun v44=>(bif (aF .eql v44 2) then (idx p.aj (j:Int)) else some (⟨[],0,[],0,0,[]⟩:aG)).bind fun v45=>(bif (aF .eql v44 2) then (idx v45.Locks (i:Int)) else some []).bind fun v46=>bif ((aF .eql v44 2)&&(yK .eql v46 y.Name)) then ((idx p.aj (j:Int)).bind fun v47=>(app acc [v47.Name]).bind fun v48=>some (Sum.inr v48)) else (some (Sum.inl (acc,(IntKind.i64.wrap ((i:Int)+1)))))) else (some (Sum.inr acc)))=_
      rw [zk hj,bS,bQ,dT (by omega),cond_true,Bc hj,bS,jr,qw (by omega)]
      simp only [qM]
      cases decide (stA A p.aj[j]!.Name=2) with
      | false=>rfl
      | true =>
       simp only [cond_true,bS,Bool.true_and]
       rw [ji hil,bS]
       cases decide (p.aj[j]!.Locks[i]=y.Name) with
       | false=>rfl
       | true=>simp only [cond_true];rw [zW (by simp only [List.length_singleton];omega)];rfl
     simp only [dU,e]
     have hd:DR (p.aj[j]!.Locks.drop i) y.Name=(decide (p.aj[j]!.Locks[i]=y.Name)||DR (p.aj[j]!.Locks.drop (i+1)) y.Name):=by
      rw [List.drop_eq_getElem_cons hil]
      unfold DR
      rw [List.any_cons,show decide (y.Name=p.aj[j]!.Locks[i])=decide (p.aj[j]!.Locks[i]=y.Name) from decide_eq_decide.2 ⟨Eq.symm,Eq.symm⟩]
     rw [hd]
     cases h2:decide (stA A p.aj[j]!.Name=2) with
     | false =>
      have:=ih (i+1) (by omega) M (by omega)
      rw [h2] at this
      simpa using this
     | true =>
      cases hn:decide (p.aj[j]!.Locks[i]=y.Name) with
      | true=>rfl
      | false =>
       have:=ih (i+1) (by omega) M (by omega)
       rw [h2] at this
       simpa using this
   have:=key _ 0 (Nat.zero_add _) N (by omega)
   rw [List.drop_zero] at this
   exact this
  rw [inner,bS]
 ·unfold mD
  simp only []
  rw [tq,bQ,dF (by omega),cond_false]
include hp ho hN b in
theorem YL (ps:UG p A) (hpp:A.pp.Pairwise (fun a b=>a.1<b.1)) {x:GEvent} (h0:0≤x.Op) (h12:x.Op<12):tK N (toR p A) x=some (toR p (vX p A x).1,⟨(vX p A x).2.2,(vX p A x).2.1⟩):=by
  have hm:=hp.m
  have hs:=hp.s
  unfold tK
  rw [G9 hp b,bS]
  cases hst:wH x.Op with
  | none =>
    have h4:x.Op=0∨x.Op=7∨x.Op=8∨x.Op=9∨x.Op=10:=by
      rcases EW h0 h12 with e | e | e | e | e | e | e | e | e | e | e | e <;> first | omega | (rw [e] at hst;cases hst)
    by_cases e0:x.Op=0
    · have hR:vX p A x=Ap A:=by
        unfold vX;rw [hst];unfold vH;rw [if_pos e0]
      rw [hR,jr,dT e0];rfl
    · have hin:iG N (toR p A) x=some (toR p (vX p A x).1,⟨(vX p A x).2.2,(vX p A x).2.1⟩):=by
        rcases h4 with e | e | e | e | e
        · exact absurd e e0
        · exact PN hp ho hN (.inl e)
        · exact WJ hp ho hN b hpp e
        · exact WI hN b hpp e
        · exact PN hp ho hN (.inr e)
      have hc:((bif (aF .eql x.Op 7) then (some (aF .eql x.Op 7)) else (bif (aF .eql x.Op 8) then (some (aF .eql x.Op 8)) else (bif (aF .eql x.Op 9) then (some (aF .eql x.Op 9)) else (some (aF .eql x.Op 10))))):Option Bool)=some true:=by
        simp only [jr]
        rcases h4 with e | e | e | e | e
        · exact absurd e e0
        all_goals rw [e];rfl
      rw [hc,bS,cond_true,hin,jr,dF e0];rfl
  | some l =>
    have h7:x.Op=1∨x.Op=2∨x.Op=3∨x.Op=4∨x.Op=5∨x.Op=6∨x.Op=11:=by
      rcases EW h0 h12 with e | e | e | e | e | e | e | e | e | e | e | e <;> first | omega | (rw [e] at hst;cases hst)
    have hc:((bif (aF .eql x.Op 7) then (some (aF .eql x.Op 7)) else (bif (aF .eql x.Op 8) then (some (aF .eql x.Op 8)) else (bif (aF .eql x.Op 9) then (some (aF .eql x.Op 9)) else (some (aF .eql x.Op 10))))):Option Bool)=some false:=by
      simp only [jr]
      rw [dF (by omega),dF (by omega),dF (by omega),dF (by omega)];rfl
    rw [hc,bS,cond_false,jr,dF (by omega),cond_false,bS]
    simp only [Sum.elim_inl]
    show ((qf N p x.Name).bind fun v19=>_)=_
    rw [FV (by omega) hN,bS,bQ,WH]
    show (bif !lY p x.Name then _ else _)=_
    have hR:vX p A x=bif !lY p x.Name then vI A 6 [] else bif !l.contains (stA A x.Name) then vI A 18 [] else vH p A x:=by unfold vX;rw [hst]
    rw [hR]
    cases hh:lY p x.Name with
    | false=>rfl
    | true =>
      obtain ⟨i,hi,e1,e2⟩:=ixP hh
      have hx:=qL hi
      have hn:p.aj[i]!.Name=x.Name:=by rw [e2];exact (zC hh).2
      have hsp:vW p p.aj[i]!.Space=true:=(ho.pk _ hx).2.2.2.2
      simp only [Bool.not_true,cond_false]
      rw [e1]
      show ((idx (rX p (stA A)) (i:Int)).bind fun v21=>_)=_
      rw [Bc hi,bS,hn,UN h0 h12 hst,bS]
      cases l.contains (stA A x.Name) with
      | false=>rfl
      | true =>
        simp only [Bool.not_true,cond_false]
        have hP:idx (toR p A).P.aj (i:Int)=some p.aj[i]!:=zk hi
        have hS:idx (toR p A).bH (i:Int)=some (stA A x.Name):=by rw [← hn];exact Bc hi
        have hB:idx (toR p A).By (i:Int)=some (A.es x.Name).yY:=by rw [← hn];exact Bc (F:=fun n=>(A.es n).yY) hi
        have hT:idx (toR p A).To (i:Int)=some (A.es x.Name).xX:=by rw [← hn];exact Bc (F:=fun n=>(A.es n).xX) hi
        have kS:(rX p (stA A)).set i (stA A x.Name)=rX p (stA A):=by rw [← hn];exact He ho hi
        have kB:(rX p fun n=>(A.es n).yY).set i (A.es x.Name).yY=rX p fun n=>(A.es n).yY:=by rw [← hn];exact He (F:=fun n=>(A.es n).yY) ho hi
        have kT:(rX p fun n=>(A.es n).xX).set i (A.es x.Name).xX=rX p fun n=>(A.es n).xX:=by rw [← hn];exact He (F:=fun n=>(A.es n).xX) ho hi
        have hup:∀ e:ah,toR p (UM A x.Name e)={ toR p A with bH:=(rX p (stA A)).set i e.state,By:=(rX p fun n=>(A.es n).yY).set i e.yY,To:=(rX p fun n=>(A.es n).xX).set i e.xX }:=fun e=>by rw [← hn];exact YG ho hi
        have hbe:∀ k,toR p (OH A x.Name k)={ toR p A with bH:=(rX p (stA A)).set i k }:=fun k=>by rw [← hn];exact toR_be ho hi
        have YM:x.Op=2∨x.Op=4→((idx (toR p A).By (i:Int)).bind fun v32=>bif (yK .eql x.Person v32) then ((kQ N 26).bind fun v33=>some (toR p A,v33)) else ((oZ N (toR p A) (i:Int)).bind fun v34=>bif (aF .gtr (List.length v34:Int) 0) then ((idx v34 0).bind fun v35=>(idx v34 0).bind fun v36=>some (toR p A,(⟨v35.Err,v36.Names⟩:aO))) else ((idx (toR p A).bH (i:Int)).bind fun v37=>some (({ toR p A with bH:=(List.set (toR p A).bH (Int.toNat (i:Int)) 2) }:af),(⟨0,[]⟩:aO)))))=some (toR p (bif decide (x.Person=(A.es x.Name).yY) then vI A 26 [] else match EU p A (rF p x.Name) with | r :: _=>vI A r.Err r.Names | []=>Ap (OH A x.Name 2)).1,⟨(bif decide (x.Person=(A.es x.Name).yY) then vI A 26 [] else match EU p A (rF p x.Name) with | r :: _=>vI A r.Err r.Names | []=>Ap (OH A x.Name 2)).2.2,(bif decide (x.Person=(A.es x.Name).yY) then vI A 26 [] else match EU p A (rF p x.Name) with | r :: _=>vI A r.Err r.Names | []=>Ap (OH A x.Name 2)).2.1⟩):=fun _=>by
          rw [hB,bS,qM,SE hp ho hN b ps hi,bS,e2,hS,bS,Int.toNat_natCast]
          cases decide (x.Person=(A.es x.Name).yY) with
          | true=>rfl
          | false =>
            rw [cond_false,cond_false]
            cases EU p A (rF p x.Name) with
            | nil =>
              show some (({ toR p A with bH:=(rX p (stA A)).set i 2 }:af),(⟨0,[]⟩:aO))=some (toR p (OH A x.Name 2),⟨0,[]⟩)
              rw [hbe]
            | cons r l =>
              rw [gt0];rfl
        rcases h7 with e | e | e | e | e | e | e
        · have hD : vH p A x = BJ A x := by unfold vH; rw [if_neg (by omega), if_pos e]
          rw [hD]
          unfold BJ
          simp only [e,jr,Int.reduceEq,decide_true,decide_false,cond_true,cond_false,Bool.true_or,Bool.true_and,bS,hP,hS,hB,Int.toNat_natCast]
          rw [zT (by omega),bS]
          cases lm x.Person with
          | false=>rfl
          | true =>
            have:=hup { A.es x.Name with state:=1,yY:=x.Person }
            simp only [kT] at this
            show some _=some (toR p (UM A x.Name _),_)
            rw [this];rfl
        · have hD : vH p A x = zx p A x := by unfold vH; rw [if_neg (by omega), if_neg (by omega), if_pos e]
          rw [hD]
          unfold zx
          simp only [e,jr,Int.reduceEq,decide_true,decide_false,cond_true,cond_false,Bool.true_or,Bool.or_true,Bool.true_and,bS,hP]
          rw [zT (by omega),bS]
          cases lm x.Person with
          | false=>rfl
          | true=>exact YM (.inl e)
        · have hD : vH p A x = Ap (OH A x.Name 3) := by unfold vH; rw [if_neg (by omega), if_neg (by omega), if_neg (by omega), if_pos e]
          rw [hD]
          simp only [e,jr,Int.reduceEq,decide_true,decide_false,cond_true,cond_false,Bool.or_self,Bool.false_and,bS,hP,hS,Int.toNat_natCast]
          show some _=some (toR p (OH A x.Name 3),_)
          rw [hbe];rfl
        · have hD : vH p A x = zx p A x := by unfold vH; rw [if_neg (by omega), if_neg (by omega), if_neg (by omega), if_neg (by omega), if_pos e]
          rw [hD]
          unfold zx
          simp only [e,jr,Int.reduceEq,decide_true,decide_false,cond_true,cond_false,Bool.true_or,Bool.or_true,Bool.true_and,bS,hP]
          rw [zT (by omega),bS]
          cases lm x.Person with
          | false=>rfl
          | true=>exact YM (.inr e)
        · have hD : vH p A x = Aq p A x := by unfold vH; rw [if_neg (by omega), if_neg (by omega), if_neg (by omega), if_neg (by omega), if_neg (by omega), if_pos e]
          have hF:Aq p A x=(bif decide (p.aj[i]!.Kind=5) && !(mZ p A (fun z=>DR z.Locks p.aj[i]!.Name)).isEmpty then vI A 20 (mZ p A (fun z=>DR z.Locks p.aj[i]!.Name)) else
              bif decide (p.aj[i]!.Kind=1)&&decide (stA A x.Name=2)&&(yx p p.aj[i]!.Space).dm&&(mZ p A (fun z=>decide (z.Kind=1)&&decide (z.Space=p.aj[i]!.Space) && !decide (z.Name=p.aj[i]!.Name))).isEmpty && !(yg A (fun s=>decide (s=p.aj[i]!.Space))).isEmpty then vI A 21 (yg A (fun s=>decide (s=p.aj[i]!.Space))) else
              Ap (OH A x.Name 4)):=by
            unfold Aq;simp only [];rw [← e2,hn]
          rw [hD,hF]
          simp only [e,jr,Int.reduceEq,decide_true,decide_false,cond_true,cond_false,Bool.or_self,Bool.false_and,bS,hP,hS,Int.toNat_natCast]
          have hH:=UQ (A:=A) (N:=N) hp hN (y:=p.aj[i]!) (R:=⟨0,[]⟩)
          have hPe:mX N (toR p A) p.aj[i]!.Space 0=some (yg A (fun s=>decide (s=p.aj[i]!.Space))):=by
            rw [Oc hp hN b ps hsp];simp only [near0]
          obtain ⟨s,hs1,f1,f2⟩:=ixS hsp
          have hSp:lG N p p.aj[i]!.Space=some (s:Int):=by rw [yB (by omega) hN,f1]
          have hSi:idx p.bG (s:Int)=some (yx p p.aj[i]!.Space):=by rw [zk hs1,f2]
          have hEn:=WG (A:=A) hp ho hN hi (s:=p.aj[i]!.Space)
          show ((dU (mD N (toR p A) ((⟨(⟨[],[],[],0⟩:GPermitPlan),0,[],[],[],[],[]⟩:af),(⟨0,[]⟩:aO),rX p (stA A),rX p (fun n=>(A.es n).yY),rX p (fun n=>(A.es n).xX),MO p (fun s=>Ji (A.ts s))) p.aj[i]!) N ([],0)).bind fun o55=>_)=_
          rw [hH,bS]
          show (bif (decide (p.aj[i]!.Kind=5)&&aF .gtr ((mZ p A (fun z=>DR z.Locks p.aj[i]!.Name)).length:Int) 0) then some (toR p A,(⟨20,mZ p A (fun z=>DR z.Locks p.aj[i]!.Name)⟩:aO)) else ((mX N (toR p A) p.aj[i]!.Space 0).bind fun v57=>((bif decide (p.aj[i]!.Kind=1) then some (stA A x.Name) else some 0):Option Int).bind fun v58=>(bif (decide (p.aj[i]!.Kind=1)&&decide (v58=2)) then lG N p p.aj[i]!.Space else some 0).bind fun v59=>(bif (decide (p.aj[i]!.Kind=1)&&decide (v58=2)) then idx p.bG v59 else some (⟨[],false,[]⟩:dn)).bind fun v60=>(bif ((decide (p.aj[i]!.Kind=1)&&decide (v58=2))&&v60.dm) then lC N (toR p A) p.aj[i]!.Space (i:Int) else some false).bind fun v61=>bif (((((decide (p.aj[i]!.Kind=1)&&decide (v58=2))&&v60.dm) && !v61)&&aF .gtr (v57.length:Int) 0)) then some (toR p A,(⟨21,v57⟩:aO)) else some (({ toR p A with bH:=(rX p (stA A)).set i 4 }:af),(⟨0,[]⟩:aO))))=_
          rw [gt0,hPe]
          simp only [bS,gt0,hEn]
          have hfin:some (({ toR p A with bH:=(rX p (stA A)).set i 4 }:af),(⟨0,[]⟩:aO))=some (toR p (Ap (OH A x.Name 4)).1,⟨(Ap (OH A x.Name 4)).2.2,(Ap (OH A x.Name 4)).2.1⟩):=by
            show _=some (toR p (OH A x.Name 4),_)
            rw [hbe];rfl
          rw [hfin]
          generalize (mZ p A (fun z=>DR z.Locks p.aj[i]!.Name))=hl
          generalize (mZ p A (fun z=>decide (z.Kind=1)&&decide (z.Space=p.aj[i]!.Space) && !decide (z.Name=p.aj[i]!.Name))).isEmpty=b1
          generalize yg A (fun s=>decide (s=p.aj[i]!.Space))=pl
          cases (decide (p.aj[i]!.Kind=5) && !hl.isEmpty) with
          | true=>rfl
          | false =>
            rw [cond_false,cond_false]
            cases decide (p.aj[i]!.Kind=1) with
            | false=>rfl
            | true =>
              simp only [cond_true,bS,Bool.true_and]
              cases decide (stA A x.Name=2) with
              | false=>rfl
              | true =>
                simp only [cond_true,Bool.true_and]
                rw [hSp,bS,hSi,bS]
                cases (yx p p.aj[i]!.Space).dm with
                | false=>rfl
                | true =>
                  simp only [cond_true,bS,Bool.true_and,Bool.not_not]
                  cases b1 with
                  | false=>rfl
                  | true=>cases pl.isEmpty <;> rfl
        · have hD : vH p A x = Ap (OH A x.Name 5) := by unfold vH; rw [if_neg (by omega), if_neg (by omega), if_neg (by omega), if_neg (by omega), if_neg (by omega), if_neg (by omega), if_pos e]
          rw [hD]
          simp only [e,jr,Int.reduceEq,decide_true,decide_false,cond_true,cond_false,Bool.or_self,Bool.false_and,bS,hP,hS,Int.toNat_natCast]
          show some _=some (toR p (OH A x.Name 5),_)
          rw [hbe];rfl
        · have hD:vH p A x=Ed A x:=by
            unfold vH;rw [if_neg (by omega),if_neg (by omega),if_neg (by omega),if_neg (by omega),if_neg (by omega),if_neg (by omega),if_neg (by omega),if_neg (by omega),if_neg (by omega),if_neg (by omega),if_neg (by omega)]
          rw [hD]
          unfold Ed
          simp only [e,jr,Int.reduceEq,decide_true,decide_false,cond_true,cond_false,Bool.or_true,Bool.true_and,bS,hP,hT,Int.toNat_natCast,vG,sG]
          rw [zT (by omega),bS]
          cases lm x.Person with
          | false=>rfl
          | true =>
            simp only [Bool.not_true,cond_false]
            cases (decide (x.To≤(A.es x.Name).xX)||decide (1000000<x.To)) with
            | true=>rfl
            | false =>
              have:=hup { A.es x.Name with xX:=x.To }
              simp only [kB] at this
              show some _=some (toR p (UM A x.Name _),_)
              rw [this]
              show some _=some (({ toR p A with bH:=(rX p (stA A)).set i (stA A x.Name),By:=_,To:=_ }:af),_)
              rw [kS];rfl
end
end Go.KB
namespace Go.KB
set_option linter.unusedVariables false
def Z8 (r:AO×List Str×Int):Prop:=(r.2.2=0→r.2.1=[])∧r.2.1.length<1000000
theorem xO {c:Bool} {a b:AO×List Str×Int} (ha:Z8 a) (hb:Z8 b):Z8 (bif c then a else b):=by cases c <;> assumption
theorem DJ {A:AO}:Z8 (Ap A):=⟨fun _=>rfl,by show 0<1000000;decide⟩
theorem Om {A:AO} {e:Int} {l:List Str} (he:e≠0) (hl:l.length<1000000):Z8 (vI A e l):=⟨fun h=>absurd h he,hl⟩
theorem yU {A:AO} {e:Int} (he:e≠0):Z8 (vI A e []):=Om he (by decide)
theorem uT {p:GPermitPlan} {c:Bool} {a b:AO×List Str×Int} (ha:UG p a.1) (hb:UG p b.1):UG p (bif c then a else b).1:=by cases c <;> assumption
section
variable {p:GPermitPlan} {A:AO} (hp:EZ p) (b:G6 A)
include hp b in
theorem Z9 {y:aG} (hy:y.Locks.length<1000):∀ r ∈ EU p A y,r.Names.length<1000000:=by
 have hm:=hp.m
 have hpl:=b.pl
 have h1:(DZ A y).length<1000000:=Nat.lt_of_le_of_lt (List.length_filter_le _ _) (by omega)
 have h2:(mZ p A (fun z=>wX p z y)).length<1000000:=Nat.lt_of_le_of_lt SB (by omega)
 have h3:(zS p A y).length<1000000:=Nat.lt_of_le_of_lt (List.length_filter_le _ _) (by have:=Oi (x:=y) hp;omega)
 have h4:(yg A (fun s=>decide (kJ p s y.Space≤1))).length<1000000:=Nat.lt_of_le_of_lt SN hpl
 intro r hr
 unfold EU at hr
 rcases List.mem_append.1 hr with hr | hr
 ·cases hd:decide (A.now<y.From) with
  | false=>rw [hd] at hr;cases hr
  | true=>rw [hd,cond_true,List.mem_singleton] at hr;subst hr;decide
 ·have hr:=(List.mem_filter.1 hr).1
  rcases List.mem_append.1 hr with hr | hr
  ·simp only [List.mem_cons,List.not_mem_nil,or_false] at hr
   rcases hr with rfl | rfl | rfl
   ·exact h1
   ·exact h2
   ·exact h3
  ·cases hd:decide (y.Kind=3) with
   | false=>rw [hd] at hr;cases hr
   | true=>rw [hd,cond_true,List.mem_singleton] at hr;subst hr;exact h4
include hp b in
theorem act_nm {x:GEvent}:Z8 (vX p A x):=by
 have hm:=hp.m
 have hpl:=b.pl
 have hop:∀ so,(mZ p A so).length<1000000:=fun so=>Nat.lt_of_le_of_lt SB (by omega)
 have hpe:∀ so,(yg A so).length<1000000:=fun so=>Nat.lt_of_le_of_lt SN hpl
 have YN:lY p x.Name=true→Z8 (zx p A x):=fun hh=>by
  unfold zx
  refine xO (yU (by decide)) (xO (yU (by decide)) ?_)
  have h1:=QI (p:=p) (A:=A) (x:=rF p x.Name)
  have h2:=Z9 hp b (y:=rF p x.Name) (hp.l _ (zC hh).1)
  cases hw:EU p A (rF p x.Name) with
  | nil=>exact DJ
  | cons r l=>rw [hw] at h1 h2;exact Om (h1 r List.mem_cons_self) (h2 r List.mem_cons_self)
 have LJ:(wH x.Op≠none→lY p x.Name=true)→Z8 (vH p A x):=fun hh=>by
  unfold vH
  by_cases e0:x.Op=0
  ·rw [if_pos e0];exact DJ
  rw [if_neg e0]
  by_cases e1:x.Op=1
  ·rw [if_pos e1];unfold BJ;exact xO (yU (by decide)) DJ
  rw [if_neg e1]
  by_cases e2:x.Op=2
  ·rw [if_pos e2];exact YN (hh (by rw [e2];decide))
  rw [if_neg e2]
  by_cases e3:x.Op=3
  ·rw [if_pos e3];exact DJ
  rw [if_neg e3]
  by_cases e4:x.Op=4
  ·rw [if_pos e4];exact YN (hh (by rw [e4];decide))
  rw [if_neg e4]
  by_cases e5:x.Op=5
  ·rw [if_pos e5];unfold Aq;exact xO (Om (by decide) (hop _)) (xO (Om (by decide) (hpe _)) DJ)
  rw [if_neg e5]
  by_cases e6:x.Op=6
  ·rw [if_pos e6];exact DJ
  rw [if_neg e6]
  by_cases e7:x.Op=7
  ·rw [if_pos e7];unfold SI;exact xO (yU (by decide)) (xO (yU (by decide)) DJ)
  rw [if_neg e7]
  by_cases e8:x.Op=8
  ·rw [if_pos e8];unfold Hl;exact xO (yU (by decide)) (xO (yU (by decide)) (xO (yU (by decide)) (xO (yU (by decide)) (xO (Om (by decide) (hop _)) DJ))))
  rw [if_neg e8]
  by_cases e9:x.Op=9
  ·rw [if_pos e9];unfold Hg;exact xO (yU (by decide)) (xO (yU (by decide)) DJ)
  rw [if_neg e9]
  by_cases e10:x.Op=10
  ·rw [if_pos e10];unfold Hf;exact xO (yU (by decide)) DJ
  rw [if_neg e10]
  unfold Ed;exact xO (yU (by decide)) (xO (yU (by decide)) DJ)
 unfold vX
 cases hst:wH x.Op with
 | none=>exact LJ fun h=>absurd hst h
 | some l =>
  cases hh:lY p x.Name with
  | false=>exact yU (by decide)
  | true=>exact xO (yU (by decide)) (xO (yU (by decide)) (LJ fun _=>hh))
theorem act_ps {p:GPermitPlan} {A:AO} {x:GEvent} (h:UG p A):UG p (vX p A x).1:=by
 have YN:UG p (zx p A x).1:=by
  unfold zx
  refine uT h (uT h ?_)
  cases EU p A (rF p x.Name) <;> exact h
 have LJ:UG p (vH p A x).1:=by
  unfold vH
  by_cases e0:x.Op=0
  ·rw [if_pos e0];exact h
  rw [if_neg e0]
  by_cases e1:x.Op=1
  ·rw [if_pos e1];unfold BJ;exact uT h h
  rw [if_neg e1]
  by_cases e2:x.Op=2
  ·rw [if_pos e2];exact YN
  rw [if_neg e2]
  by_cases e3:x.Op=3
  ·rw [if_pos e3];exact h
  rw [if_neg e3]
  by_cases e4:x.Op=4
  ·rw [if_pos e4];exact YN
  rw [if_neg e4]
  by_cases e5:x.Op=5
  ·rw [if_pos e5];unfold Aq;exact uT h (uT h h)
  rw [if_neg e5]
  by_cases e6:x.Op=6
  ·rw [if_pos e6];exact h
  rw [if_neg e6]
  by_cases e7:x.Op=7
  ·rw [if_pos e7];unfold SI;exact uT h (uT h h)
  rw [if_neg e7]
  by_cases e8:x.Op=8
  ·rw [if_pos e8];unfold Hl
   refine uT h ?_
   cases hh:vW p x.Space with
   | false=>exact h
   | true =>
    refine uT h (uT h (uT h (uT h ?_)))
    intro q hq
    rcases QJ hq with rfl | hq
    ·exact hh
    ·exact h q hq
  rw [if_neg e8]
  by_cases e9:x.Op=9
  ·rw [if_pos e9];unfold Hg
   refine uT h (uT h ?_)
   intro q hq
   exact h q (List.mem_filter.1 hq).1
  rw [if_neg e9]
  by_cases e10:x.Op=10
  ·rw [if_pos e10];unfold Hf;exact uT h h
  rw [if_neg e10]
  unfold Ed;exact uT h (uT h h)
 unfold vX
 cases wH x.Op with
 | none=>exact LJ
 | some l=>exact uT h (uT h LJ)
theorem do_ps {p:GPermitPlan} {A:AO} {x:GEvent} (h:UG p A):UG p (LG p A x).1:=by
 have h1:UG p (vX p (gQ p { A with now:=x.At }) x).1:=act_ps h
 unfold LG
 refine uT h (uT h ?_)
 exact uT h1 h1
end
theorem rDo_eq {N:Nat} {p:GPermitPlan} {A:AO} (hp:EZ p) (ho:DN p) (hN:1000000≤N) (h:SQ p A) (ps:UG p A) (hd:A.done.length<100000) (x:GEvent) :
    uY N (toR p A) x=some (toR p (LG p A x).1,⟨(LG p A x).2.2,(LG p A x).2.1⟩)∧(LG p A x).2.1.length<1000000:=by
  unfold uY LG
  simp only [bQ,sG]
  rw [show decide (11<x.Op)=decide (12≤x.Op) from decide_eq_decide.2 ⟨fun h=>by omega,fun h=>by omega⟩]
  by_cases hr:x.Op<0∨12≤x.Op∨x.At<0∨1000000<x.At
  · have hr' : (decide (x.Op < 0) || decide (12 ≤ x.Op) || decide (x.At < 0) || decide (1000000 < x.At)) = true := by simpa [or_assoc] using hr
    rw [hr'];exact ⟨rfl,by show 0<1000000;decide⟩
  · have hr' : (decide (x.Op < 0) || decide (12 ≤ x.Op) || decide (x.At < 0) || decide (1000000 < x.At)) = false := by simp; omega
    rw [hr',cond_false,cond_false]
    show (bif decide (x.At<A.now) then _ else _)=_∧_
    by_cases hw0:x.At<A.now
    · rw [dT hw0];exact ⟨rfl,by show 0<1000000;decide⟩
    · rw [dF hw0,cond_false,cond_false]
      have hw:WA p A.done { A with now:=x.At }:=h.w.le (fun s=>.inl rfl) (fun _=>rfl) ⟨by show A.now≤x.At;omega,by show x.At≤1000000;omega⟩ h.w.pp (fun s t e=>.inl e) h.w.pl
      have hi:=DK ho hw
      have bA:G6 A:=h.w.bd (by omega)
      have bN:G6 { A with now:=x.At }:=hw.bd (by omega)
      have bSt:G6 (gQ p { A with now:=x.At }):=bN.settle
      have wS:WA p A.done (gQ p { A with now:=x.At }):=hw.settle
      obtain ⟨s1,s2,s3,s4,_⟩:=JP ho (A:=gQ p { A with now:=x.At }) (x:=x) (by omega) (by omega)
      have hnm:=act_nm hp bSt (x:=x)
      have hdn:=YL hp ho hN bSt (fun q hq=>ps q hq) wS.pp (x:=x) (by omega) (by omega)
      rw [G9 hp bA,bS]
      show ((og N (toR p { A with now:=x.At })).bind fun v4=>_)=_∧_
      rw [Oj hp ho hN bN,bS,hdn,bS]
      generalize hR:vX p (gQ p { A with now:=x.At }) x=R at s1 s2 s3 s4 hnm hdn
      simp only [uK]
      by_cases h0:R.2.2=0
      · have bR : G6 R.1 := (s2 _ wS).bd (by simp only [List.length_append, List.length_singleton]; omega)
        rw [dT h0]
        simp only [Bool.not_true,cond_false,cond_true]
        rw [Oj hp ho hN bR,bS,hnm.1 h0,h0]
        exact ⟨rfl,by decide⟩
      · rw [dF h0]
        simp only [Bool.not_false,cond_true,cond_false]
        rw [s1 h0]
        exact ⟨rfl,hnm.2⟩
theorem UR {p:GPermitPlan} (ho:DN p) {x:aG} (hx:x ∈ p.aj):(Oa p).es x.Name=⟨0,[],x.To⟩:=by
 have hh:lY p x.Name=true:=yT.2 ⟨x,hx,rfl⟩
 have h2:=ho.pk x hx
 have e0:(KZ p).es x.Name=⟨0,[],x.To⟩:=by
  show (bif lY p x.Name then (⟨0,[],(rF p x.Name).To⟩:ah) else ⟨0,[],0⟩)=_
  rw [hh,ho.Et hx];rfl
 have e1:(zX p (KZ p)).es x.Name=⟨0,[],x.To⟩:=by
  show (bif lY p x.Name then zY 0 ((KZ p).es x.Name) else (KZ p).es x.Name)=_
  rw [hh,e0]
  unfold zY
  rw [show decide ((⟨0,[],x.To⟩:ah).xX≤0)=false from dF (by show ¬ x.To≤0;omega),Bool.and_false];rfl
 show (bif lY p x.Name&&decide (stA (zX p (KZ p)) x.Name=2)&&wY p (zX p (KZ p)) (rF p x.Name) then ({ (zX p (KZ p)).es x.Name with state:=3 }:ah) else (zX p (KZ p)).es x.Name)=_
 rw [show decide (stA (zX p (KZ p)) x.Name=2)=false from by unfold stA;rw [e1];rfl,Bool.and_false,Bool.false_and]
 exact e1
theorem YO {α:Type} {z:α} {n:Nat} (h:n<1000000):mk z (n:Int) (n:Int)=some (List.replicate n z):=by
 have hlim:(10000000:Int)≤lim:=by decide
 unfold mk
 rw [dT (by omega),dT (by omega),dT (by omega),Int.toNat_natCast];rfl
theorem QK {α β:Type} {f:α→β} {z:β} {l:List α} (h:∀ x ∈ l,f x=z):List.replicate l.length z=l.map f:=by
 rw [List.map_congr_left h,List.map_const']
theorem ZV {N:Nat} {p:GPermitPlan} (hp:EZ p) (ho:DN p) (hN:1000000≤N):Bl N p=some (toR p (Oa p)):=by
 have hm:=hp.m
 have hs:=hp.s
 have hlim:lim ≥ 10000000:=by decide
 unfold Bl
 rw [YO (by omega),bS,YO (by omega),bS,YO (by omega),bS]
 have key:=Be (N:=N) (n:=p.aj.length) (f:=sJ N p) (fun i=>((⟨p,0,List.replicate p.aj.length 0,List.replicate p.aj.length [],(p.aj.take i).map (fun x=>x.To),List.replicate p.bG.length (⟨false,0,0,0⟩:dL),[]⟩:af),(i:Int))) ((⟨p,0,List.replicate p.aj.length 0,List.replicate p.aj.length [],(p.aj.take p.aj.length).map (fun x=>x.To),List.replicate p.bG.length (⟨false,0,0,0⟩:dL),[]⟩:af)) (fun i hi=>?_) ?_ (by omega)
 ·rw [List.take_length] at key
  have e:(⟨p,0,List.replicate p.aj.length 0,List.replicate p.aj.length [],p.aj.map (fun x=>x.To),List.replicate p.bG.length (⟨false,0,0,0⟩:dL),[]⟩:af)=toR p (Oa p):=by
   show (⟨p,0,_,_,_,_,[]⟩:af)=⟨p,0,rX p (stA (Oa p)),rX p (fun n=>((Oa p).es n).yY),rX p (fun n=>((Oa p).es n).xX),MO p (fun s=>Ji none),[]⟩
   congr 1
   ·exact QK fun x hx=>by unfold stA;rw [UR ho hx]
   ·exact QK fun x hx=>by simp only [UR ho hx]
   ·exact List.map_congr_left fun x hx=>by simp only [UR ho hx]
   ·exact QK fun x hx=>rfl
  show ((dU (sJ N p) N ((⟨p,0,List.replicate p.aj.length 0,List.replicate p.aj.length [],[],List.replicate p.bG.length (⟨false,0,0,0⟩:dL),[]⟩:af),0)).bind fun o8=>some o8)=_
  rw [show dU (sJ N p) N ((⟨p,0,List.replicate p.aj.length 0,List.replicate p.aj.length [],[],List.replicate p.bG.length (⟨false,0,0,0⟩:dL),[]⟩:af),0)=_ from key,e];rfl
 ·unfold sJ
  simp only []
  rw [bQ,dT (by omega),cond_true,ji hi,bS,zW (by simp only [List.length_map,List.length_take,List.length_singleton];omega),bS,qw (by omega),List.take_succ_eq_append_getElem hi,List.map_append];rfl
 ·unfold sJ
  simp only []
  rw [bQ,dF (by omega),cond_false]
end Go.KB
