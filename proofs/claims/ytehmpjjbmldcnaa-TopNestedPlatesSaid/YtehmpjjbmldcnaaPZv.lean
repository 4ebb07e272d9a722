/- The program counts the nodes of a tree. The leaves of a tree: the program's and the reference's. The leaves of a tree are the same for both. No condition. -/
import Derived.Test.YtehmpjjbmldcnaaPZu
namespace Go.KB
set_option linter.unusedVariables false
def PM (s n:Nat):Prop:=1≤n∧n≤s∧(s≤200→n=s)∧(200<s→200<n)
theorem PM.add {s n t v:Nat} (h:PM s n) (h':PM t v) (hn:n≤200):PM (s+t) (n+v):=by unfold PM at *;omega
theorem PM.up {s n t:Nat} (h:PM s n) (hn:200<n):PM (s+t) n:=by unfold PM at *;omega
theorem MP {rc:bV→Option Int} {N:Nat} {l:List bV} (hrc:∀ i,i<l.length→∃ v:Nat,rc l[i]! = some (v:Int)∧PM (nT l[i]!) v):∀ (k i s n M:Nat),l.length - i≤k→k<M→i≤l.length→l.length≤1000000000000→PM s n→s+Js (l.drop i)≤1000000000000→∃ n':Nat,(aX (eH N rc l) M ((n:Int),(i:Int))=some (.inl (n':Int))∨200<n'∧aX (eH N rc l) M ((n:Int),(i:Int))=some (.inr (n':Int)))∧PM (s+Js (l.drop i)) n':=by
  intro k
  induction k with
  | zero =>
    intro i s n M h1 h2 h3 hl hp hb
    obtain ⟨M,rfl⟩:∃ x,M=x+1:=⟨M - 1,by omega⟩
    refine ⟨n,.inl ?_,by rw [List.drop_eq_nil_of_le (by omega)];exact hp⟩
    rw [aX]
    unfold eH
    simp only []
    rw [aW,dF (by omega),iT]
  | succ k ih =>
    intro i s n M h1 h2 h3 hl hp hb
    obtain ⟨M,rfl⟩:∃ x,M=x+1:=⟨M - 1,by omega⟩
    by_cases q:i<l.length
    · rw [PL q] at hb ⊢
      by_cases g:200<n
      · refine ⟨n,.inr ⟨g,?_⟩,hp.up g⟩
        rw [aX]
        unfold eH
        simp only []
        rw [aW,dT (by omega),iP,jK q,bS,fE,dT (by omega),iP]
      · obtain ⟨v,v1,v2⟩:=hrc i q
        have hv:v≤nT l[i]!:=v2.2.1
        have hs:eH N rc l ((n:Int),(i:Int))=some (.inl (((n+v:Nat):Int),((i+1:Nat):Int))):=by
          unfold eH
          simp only []
          rw [aW,dT (by omega),iP,jK q,bS,fE,dF (by omega),iT,v1,bS,lY (by omega),jd (by omega) (by omega)];rfl
        obtain ⟨n',t1,t2⟩:=ih (i+1) (s+nT l[i]!) (n+v) M (by omega) (by omega) q hl (hp.add v2 (by omega)) (by omega)
        refine ⟨n',?_,by rw [← Nat.add_assoc];exact t2⟩
        rw [aX,hs]
        exact t1
    · refine ⟨n, .inl ?_, by rw [List.drop_eq_nil_of_le (by omega)]; exact hp⟩
      rw [aX]
      unfold eH
      simp only []
      rw [aW,dF (by omega),iT]
theorem Jt {l:List bV} {i:Nat} (h:i<l.length):nT l[i]! ≤ Js l:=by
 induction l generalizing i with
 | nil=>exact absurd h (Nat.not_lt_zero _)
 | cons x l ih =>
  cases i with
  | zero=>show nT x≤nT x+Js l;omega
  | succ i =>
   have:=ih (i:=i) (by simpa using h)
   show nT l[i]! ≤ nT x+Js l
   omega
theorem Xc:∀ (M:Nat) (c:bV),nT c+3≤M→nT c≤1000000000000→∃ v:Nat,fG M c=some (v:Int)∧PM (nT c) v:=by
 intro M
 induction M with
 | zero=>intro c h;omega
 | succ M ih =>
  intro c h1 h2
  show ∃ v:Nat,ng M (fG M) c=_∧_
  have hT:=Bq c
  obtain ⟨n1,a1,a2⟩:=MP (rc:=fG M) (N:=M) (l:=c.First) (fun i hi=>by
   have:=Jt hi
   exact ih _ (by omega) (by omega)) c.First.length 0 1 1 M (by omega) (by have:=Ak c.First;omega) (Nat.zero_le _) (by have:=Ak c.First;omega) (by unfold PM;omega) (by rw [List.drop_zero];omega)
  rw [List.drop_zero] at a2
  obtain ⟨M2,rfl⟩:∃ x,M=x+3:=⟨M - 3,by have:=KL c;omega⟩
  rcases a1 with a1 | ⟨g,a1⟩
  ·have s0:fJ (M2+3) (fG (M2+3)) c (1,0)=some (.inl ((n1:Int),1)):=by
    unfold fJ
    simp only []
    rw [show aB .lss (0:Int) 2=true from rfl,iP,show idx [c.First,c.Rest] 0=some c.First from rfl,bS]
    have a1:aX (eH (M2+3) (fG (M2+3)) c.First) (M2+3) (1,0)=_:=a1
    rw [a1,bS];rfl
   obtain ⟨n2,b1,b2⟩:=MP (rc:=fG (M2+3)) (N:=M2+3) (l:=c.Rest) (fun i hi=>by
    have:=Jt hi
    exact ih _ (by omega) (by omega)) c.Rest.length 0 (1+Js c.First) n1 (M2+3) (by omega) (by have:=Ak c.Rest;omega) (Nat.zero_le _) (by have:=Ak c.Rest;omega) a2 (by rw [List.drop_zero];omega)
   rw [List.drop_zero,← hT] at b2
   refine ⟨n2,?_,b2⟩
   have b1:aX (eH (M2+3) (fG (M2+3)) c.Rest) (M2+3) ((n1:Int),0)=some (.inl (n2:Int))∨200<n2∧aX (eH (M2+3) (fG (M2+3)) c.Rest) (M2+3) ((n1:Int),0)=some (.inr (n2:Int)):=b1
   unfold ng
   rw [aX,s0]
   show ((aX _ (M2+2) ((n1:Int),1)).bind _)=_
   rcases b1 with b1 | ⟨g,b1⟩
   ·have s1:fJ (M2+3) (fG (M2+3)) c ((n1:Int),1)=some (.inl ((n2:Int),2)):=by
     unfold fJ
     simp only []
     rw [show aB .lss (1:Int) 2=true from rfl,iP,show idx [c.First,c.Rest] 1=some c.Rest from rfl,bS,b1,bS];rfl
    have s2:fJ (M2+3) (fG (M2+3)) c ((n2:Int),2)=some (.inr (.inl (n2:Int))):=by
     unfold fJ
     simp only []
     rw [show aB .lss (2:Int) 2=false from rfl,iT]
    rw [aX,s1]
    show ((aX _ (M2+1) ((n2:Int),2)).bind _)=_
    rw [aX,s2];rfl
   ·have s1:fJ (M2+3) (fG (M2+3)) c ((n1:Int),1)=some (.inr (.inr (n2:Int))):=by
     unfold fJ
     simp only []
     rw [show aB .lss (1:Int) 2=true from rfl,iP,show idx [c.First,c.Rest] 1=some c.Rest from rfl,bS,b1,bS];rfl
    rw [aX,s1];rfl
  ·have s0:fJ (M2+3) (fG (M2+3)) c (1,0)=some (.inr (.inr (n1:Int))):=by
    unfold fJ
    simp only []
    rw [show aB .lss (0:Int) 2=true from rfl,iP,show idx [c.First,c.Rest] 0=some c.First from rfl,bS]
    have a1:aX (eH (M2+3) (fG (M2+3)) c.First) (M2+3) (1,0)=_:=a1
    rw [a1,bS];rfl
   refine ⟨n1,?_,by rw [hT];exact a2.up g⟩
   unfold ng
   rw [aX,s0];rfl
end Go.KB
namespace Go.KB
set_option linter.unusedVariables false
def DU (c:bV) (r:bg) (k:Int):bg:=bif c.nS then ({ r with H:=c.At }:bg) else ({ r with W:=c.At }:bg)
def DV (c:bV) (r:bg) (k:Int):bg:=bif c.nS then ({ r with Y:=IntKind.i64.wrap (IntKind.i64.wrap (r.Y+c.At)+k),H:=IntKind.i64.wrap (IntKind.i64.wrap (r.H - c.At) - k) }:bg) else ({ r with X:=IntKind.i64.wrap (IntKind.i64.wrap (r.X+c.At)+k),W:=IntKind.i64.wrap (IntKind.i64.wrap (r.W - c.At) - k) }:bg)
def Bv (c:bV):Prop:=c.First.length≠1∨c.Rest.length≠1∨c.Piece ≠ -1∨c.Turned=true∨c.At≤0
instance (c:bV):Decidable (Bv c):=inferInstanceAs (Decidable (c.First.length≠1∨c.Rest.length≠1∨c.Piece ≠ -1∨c.Turned=true∨c.At≤0))
theorem KI {M:Nat} {c:bV} {r:bg} {k:Int} (hw:1≤r.W) (hh:1≤r.H) (hn:nT c≤1000000):jA (M+1) c r k =
    if c.Piece < -1 then some ([],false) else if c.First=[]∧c.Rest=[] then (if c.At≠0∨c.nS=true then some ([],false) else if c.Piece = -1 then some ([],true) else some ([⟨c.Piece,c.Turned,r⟩],true))
    else if Bv c∨200000<c.At then some ([],false) else (jA M c.First[0]! (DU c r k) k).bind fun v7=>(jA M c.Rest[0]! (DV c r k) k).bind fun v9=>(app v7.1 v9.1).bind fun v10=>some (v10,(v7.2&&v9.2)):=by
  show rM M (jA M) c r k=_
  have h1:=Bq c
  have h2:=Ak c.First
  have h3:=Ak c.Rest
  unfold rM
  rw [aW,aW,dF (by omega),dF (by omega),Bool.or_self,Bool.false_or,aW]
  by_cases p:c.Piece < -1
  · rw [dT p,iP,if_pos p]
  · rw [dF p, iT, if_neg p, lK, jd (by omega) (by omega)]
    by_cases e:c.First=[]∧c.Rest=[]
    · rw [if_pos e, dT (by rw [e.1, e.2]; rfl), iP]
      simp only [lV,lK]
      by_cases g:c.At≠0∨c.nS=true
      · rw [if_pos g]
        have hg:(!decide (c.At=0)||c.nS)=true:=by
          rcases g with g | g
          · rw [dF g];rfl
          · rw [g,Bool.or_true]
        have hg2:(decide (c.At=0) && !c.nS)=false:=by
          rcases g with g | g
          · rw [dF g];rfl
          · rw [g];simp
        rw [hg,hg2];rfl
      · rw [if_neg g]
        have g0:c.At=0:=by by_cases q:c.At=0 <;> simp_all
        have g1:c.nS=false:=by cases q:c.nS <;> simp_all
        rw [dT g0,g1]
        by_cases q:c.Piece = -1
        · rw [dT q,if_pos q]
          cases c.Turned <;> rfl
        · rw [dF q,if_neg q];rfl
    · rw [if_neg e, dF (fun h => e ⟨List.length_eq_zero_iff.1 (by omega), List.length_eq_zero_iff.1 (by omega)⟩), iT]
      simp only [lV,aW,fE]
      have hb:(((((!decide ((c.First.length:Int)=1) || !decide ((c.Rest.length:Int)=1)) || !decide (c.Piece = -1))||c.Turned)||decide (c.At<1))||decide (200000<c.At))=decide (Bv c∨200000<c.At):=by
        rw [Bool.eq_iff_iff]
        simp only [Bool.or_eq_true,Bool.not_eq_true',decide_eq_false_iff_not,decide_eq_true_eq]
        unfold Bv
        cases ht:c.Turned with
        | true=>simp only [or_true,true_or]
        | false=>simp only [Bool.false_eq_true,or_false,false_or];omega
      rw [hb]
      by_cases b:Bv c∨200000<c.At
      · rw [dT b,iP,if_pos b]
      · rw [dF b,iT,if_neg b]
        have b1:c.First.length=1:=by unfold Bv at b;omega
        have b2:c.Rest.length=1:=by unfold Bv at b;omega
        rw [show idx c.First 0=some c.First[0]! from jK (i:=0) (by omega),show idx c.Rest 0=some c.Rest[0]! from jK (i:=0) (by omega)]
        unfold DU DV
        cases c.nS <;> rfl
theorem Py {M:Nat} {c:bV} {r:bg} {k:Int} {l:List ah} (hw:1≤r.W) (hw2:r.W≤100000) (hh:1≤r.H) (hh2:r.H≤100000) (hk:0≤k) (hk2:k≤100) (hl:l.length≤60000000000):jM (M+1) l c r k =
    if c.First=[]∧c.Rest=[] then (if c.At≠0∨c.nS=true∨c.Piece < -1 then some (l,false) else if 0≤c.Piece then some (l ++ [⟨c.Piece,c.Turned,r⟩],true) else some (l,true))
    else if Bv c∨(bif c.nS then r.H - k - 1 else r.W - k - 1)<c.At then some (l,false) else (jM M l c.First[0]! (DU c r k) k).bind fun v14=>bif (!v14.2) then (some (v14.1,false)) else (jM M v14.1 c.Rest[0]! (DV c r k) k).bind fun v16=>some (v16.1,v16.2):=by
  show qJ M (jM M) l c r k=_
  unfold qJ
  simp only [lK,lV,aW,jD,nZ,fE]
  by_cases e:c.First=[]∧c.Rest=[]
  · rw [if_pos e, dT (show (c.First.length : Int) = 0 by rw [e.1]; rfl), dT (show (c.Rest.length : Int) = 0 by rw [e.2]; rfl), Bool.and_self, iP]
    have hg:(!decide (c.At=0)||c.nS||decide (c.Piece < -1))=decide (c.At≠0∨c.nS=true∨c.Piece < -1):=by
      rw [Bool.eq_iff_iff]
      simp only [Bool.or_eq_true,Bool.not_eq_true',decide_eq_false_iff_not,decide_eq_true_eq,or_assoc,ne_eq]
    rw [hg]
    by_cases g:c.At≠0∨c.nS=true∨c.Piece < -1
    · rw [dT g,iP,if_pos g]
    · rw [dF g,iT,if_neg g]
      by_cases q:0≤c.Piece
      · rw [dT q,iP,if_pos q,qo (by simp only [List.length_singleton,lim];omega)];rfl
      · rw [dF q,iT,if_neg q];rfl
  · rw [if_neg e]
    have he:(decide ((c.First.length:Int)=0)&&decide ((c.Rest.length:Int)=0))=false:=by
      cases h:(decide ((c.First.length:Int)=0)&&decide ((c.Rest.length:Int)=0)) with
      | false=>rfl
      | true =>
        rw [Bool.and_eq_true,decide_eq_true_eq,decide_eq_true_eq] at h
        exact absurd ⟨List.length_eq_zero_iff.1 (by omega),List.length_eq_zero_iff.1 (by omega)⟩ e
    rw [he,iT]
    have hb:((((!decide ((c.First.length:Int)=1) || !decide ((c.Rest.length:Int)=1)) || !decide (c.Piece = -1))||c.Turned)||decide (c.At≤0))=decide (Bv c):=by
      rw [Bool.eq_iff_iff]
      simp only [Bool.or_eq_true,Bool.not_eq_true',decide_eq_false_iff_not,decide_eq_true_eq]
      unfold Bv
      cases ht:c.Turned with
      | true=>simp only [or_true,true_or]
      | false=>simp only [Bool.false_eq_true,or_false,false_or];omega
    rw [hb]
    by_cases b:Bv c
    · rw [dT b,iP,if_pos (.inl b)]
    · rw [dF b,iT]
      have b1:c.First.length=1:=by unfold Bv at b;omega
      have b2:c.Rest.length=1:=by unfold Bv at b;omega
      rw [show idx c.First 0=some c.First[0]! from jK (i:=0) (by omega),show idx c.Rest 0=some c.Rest[0]! from jK (i:=0) (by omega)]
      rw [jd (n:=r.H - k) (by omega) (by omega),jd (n:=r.H - k - 1) (by omega) (by omega),jd (n:=r.W - k) (by omega) (by omega),jd (n:=r.W - k - 1) (by omega) (by omega)]
      unfold DU DV
      cases c.nS with
      | true =>
        simp only [iP]
        by_cases q:r.H - k - 1<c.At
        · rw [dT q,iP,if_pos (.inr q)];rfl
        · rw [dF q,iT,if_neg (fun h=>h.elim b q)];rfl
      | false =>
        simp only [iT]
        by_cases q:r.W - k - 1<c.At
        · rw [dT q,iP,if_pos (.inr q)];rfl
        · rw [dF q,iT,if_neg (fun h=>h.elim b q)];rfl
end Go.KB
namespace Go.KB
set_option linter.unusedVariables false
theorem Vu {c:bV} (h:¬ Bv c):c.First.length=1∧c.Rest.length=1:=by unfold Bv at h;omega
theorem Xb {c:bV} (h:¬ Bv c):nT c=1+nT c.First[0]! + nT c.Rest[0]!:=by
 obtain ⟨h1,h2⟩:=Vu h
 rw [Bq]
 have e:∀ l:List bV,l.length=1→Js l=nT l[0]!:=fun l hl=>by
  match l,hl with
  | [x],_=>rfl
 rw [e _ h1,e _ h2]
end Go.KB
