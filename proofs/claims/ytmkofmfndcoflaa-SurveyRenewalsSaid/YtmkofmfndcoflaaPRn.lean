/- Rectangles in order; the first pair that has a cell in common. No condition. -/
import Derived.Test.YtmkofmfndcoflaaPGd
import Derived.Test.YtmkofmfndcoflaaPSo
namespace Go.KB
set_option linter.unusedVariables false
/- the order -/
def I7 (a:ak):List Int:=[a.Y,a.X,a.H,a.W]
def iL (a b:ak):Int:=tK (I7 a) (I7 b)
theorem FM (a b:ak) (h:iL a b=0):a=b:=by
  have:=G9 _ _ h
  unfold I7 at this
  cases a;cases b
  simp only [List.cons.injEq,and_true] at this
  obtain ⟨h1,h2,h3,h4⟩:=this
  subst h1 h2 h3 h4;rfl
theorem rE (a b:ak):iL a b≤0↔0≤iL b a:=He _ _
theorem vW (a b c:ak) (h1:iL a b≤0) (h2:iL b c≤0):iL a c≤0:=FN _ _ _ h1 h2
def cR (a b:ak):Option Int:=some (iL a b)
theorem okR (l:List ak):sO cR l:=Hf (k:=iL) (fun _ _ _ _=>rfl) rE FM vW
def kZ (l:List ak):List ak:=lZ cR l
def orL:List Int→Int
  | []=>0
  | x :: l=>if x=0 then orL l else x
theorem Lc {N:Nat} {l:List Int} (hl:l.length<1000000) (hN:1000000≤N):pO N l=some (orL l):=by
  have key:∀ k i M,i+k=l.length→k<M→∃ o,bD (iq N l) M (i:Int)=some o∧Sum.elim (fun _=>(0:Int)) (fun r=>r) o=orL (l.drop i):=by
    intro k
    induction k with
    | zero =>
      intro i M hi hM
      obtain ⟨M,rfl⟩:∃ m,M=m+1:=⟨M - 1,by omega⟩
      have e:iq N l (i:Int)=some (.inr (.inl ())):=by
        unfold iq
        rw [dh,dF (by omega),qo]
      exact ⟨.inl (),by rw [bD,e],by rw [List.drop_of_length_le (by omega)];rfl⟩
    | succ k ih =>
      intro i M hi hM
      obtain ⟨M,rfl⟩:∃ m,M=m+1:=⟨M - 1,by omega⟩
      have hlt:i<l.length:=by omega
      have e:iq N l (i:Int)=if l[i]=0 then some (.inl ((i+1:Nat):Int)) else some (.inr (.inr l[i])):=by
        unfold iq
        rw [dh,dT (by omega),oC,pJ hlt,bS,jw,uH (by omega)]
        by_cases h:l[i]=0
        · rw [dT h,if_pos h];rfl
        · rw [dF h,if_neg h];rfl
      rw [List.drop_eq_getElem_cons hlt]
      show ∃ o,_∧_=if l[i]=0 then orL (l.drop (i+1)) else l[i]
      by_cases h:l[i]=0
      · rw [if_pos h] at e
        obtain ⟨o,h1,h2⟩:=ih (i+1) M (by omega) (by omega)
        exact ⟨o,by rw [bD,e];exact h1,by rw [if_pos h];exact h2⟩
      · rw [if_neg h] at e
        exact ⟨.inr l[i],by rw [bD,e],by rw [if_neg h];rfl⟩
  obtain ⟨o,h1,h2⟩:=key l.length 0 N (by omega) (by omega)
  have h1:bD (iq N l) N 0=some o:=h1
  unfold pO
  rw [h1,bS]
  rw [List.drop_zero] at h2
  cases o with
  | inl u=>rw [← h2];rfl
  | inr r=>rw [← h2];rfl
theorem En {N:Nat} {a b:ak} (hN:1000000≤N):fK N a b=cR a b:=by
  unfold fK
  rw [pK,bS,pK,bS,pK,bS,pK,bS,Lc (by simp) hN,bS]
  unfold cR iL I7
  congr 1
  simp only [orL,tK]
  have key:∀ (x y:Int) (z:Int),(if (if x<y then (-1:Int) else if y<x then 1 else 0)=0 then z else if x<y then (-1:Int) else if y<x then 1 else 0)=if x<y then -1 else if y<x then 1 else z:=by
    intro x y z
    by_cases h1:x<y
    · rw [if_pos h1,if_neg (by decide),if_pos h1]
    · rw [if_neg h1]
      by_cases h2:y<x
      · rw [if_pos h2,if_neg (by decide),if_neg h1,if_pos h2]
      · rw [if_neg h2,if_pos rfl,if_neg h1,if_neg h2]
  rw [key,key,key,key]
theorem uI {N:Nat} {l:List ak} (hl:l.length≤1000000) (hN:1000000≤N):je N l=some (kZ l):=by
  unfold je gy
  rw [show (fun y0 y1=>fK N y0 y1)=cR from funext fun a=>funext fun b=>En hN,E5 (okR l) hl];rfl
theorem I8 {a b:ak}:iL a b<0↔a.Y<b.Y∨(a.Y=b.Y∧(a.X<b.X∨(a.X=b.X∧(a.H<b.H∨(a.H=b.H∧a.W<b.W))))):=by
  unfold iL I7
  simp only [tK]
  repeat' split
  all_goals omega
theorem I9 {N:Nat} {a b:ak}:mr N a b=some (decide (iL a b<0)):=by
  have e:decide (iL a b<0)=decide (a.Y<b.Y∨(a.Y=b.Y∧(a.X<b.X∨(a.X=b.X∧(a.H<b.H∨(a.H=b.H∧a.W<b.W)))))):=decide_eq_decide.2 I8
  unfold mr
  rw [e]
  simp only [jw,dh]
  by_cases h1:a.Y=b.Y
  · rw [dT h1]
    by_cases h2:a.X=b.X
    · rw [dT h2]
      by_cases h3:a.H=b.H
      · rw [dT h3];simp only [Bool.not_true,qo];congr 1;rw [decide_eq_decide];omega
      · rw [dF h3];simp only [Bool.not_true,Bool.not_false,qo,oC];congr 1;rw [decide_eq_decide];omega
    · rw [dF h2];simp only [Bool.not_true,Bool.not_false,qo,oC];congr 1;rw [decide_eq_decide];omega
  · rw [dF h1];simp only [Bool.not_false,oC];congr 1;rw [decide_eq_decide];omega
def vV (l:List ak) (r:ak):List ak:=l.take (l.findIdx fun y=>decide (iL r y<0)) ++ [r] ++ l.drop (l.findIdx fun y=>decide (iL r y<0))
theorem put_eq {N:Nat} {l:List ak} {r:ak} (hl:l.length<1000000) (hN:1000000≤N):lq N l r=some (vV l r):=by
  have hlim:lim ≥ 10000000:=by decide
  have hk:l.findIdx (fun y=>decide (iL r y<0))≤l.length:=List.findIdx_le_length
  have key:∀ d i M,i+d=l.length→d<M→(∀ j (hj:j<l.length),j<i→decide (iL r l[j]<0)=false)→bD (gY N l r) M (i:Int)=some ((l.findIdx fun y=>decide (iL r y<0):Nat):Int):=by
    intro d
    induction d with
    | zero =>
      intro i M hi hM hb
      obtain ⟨M,rfl⟩:∃ m,M=m+1:=⟨M - 1,by omega⟩
      have e:gY N l r (i:Int)=some (.inr (i:Int)):=by
        unfold gY
        rw [dh,dF (by omega),qo,bS,qo,bS];rfl
      rw [bD,e]
      have:l.findIdx (fun y=>decide (iL r y<0))=l.length:=List.findIdx_eq_length.2 fun y hy=>by
        obtain ⟨j,hj,rfl⟩:=List.getElem_of_mem hy
        exact hb j hj (by omega)
      rw [this,show i=l.length by omega]
    | succ d ih =>
      intro i M hi hM hb
      obtain ⟨M,rfl⟩:∃ m,M=m+1:=⟨M - 1,by omega⟩
      have hlt:i<l.length:=by omega
      have e:gY N l r (i:Int)=bif decide (iL r l[i]<0) then some (.inr (i:Int)) else some (.inl ((i+1:Nat):Int)):=by
        unfold gY
        rw [dh,dT (by omega),oC,pJ hlt,bS,oC,I9,bS,Bool.true_and,uH (by omega)]
        cases decide (iL r l[i]<0) <;> rfl
      cases hq:decide (iL r l[i]<0) with
      | true =>
        rw [hq] at e
        rw [bD,e]
        have:l.findIdx (fun y=>decide (iL r y<0))=i:=(List.findIdx_eq hlt).2 ⟨hq,fun j hj=>by simpa using hb j (by omega) hj⟩
        rw [this];rfl
      | false =>
        rw [hq] at e
        rw [bD,e]
        exact ih (i+1) M (by omega) (by omega) fun j hj hji=>by
          by_cases h:j=i
          · subst h;exact hq
          · exact hb j hj (by omega)
  unfold lq
  have h0:=key l.length 0 N (by omega) (by omega) (fun j hj h=>by omega)
  have h0:bD (gY N l r) N 0=some ((l.findIdx fun y=>decide (iL r y<0):Nat):Int):=h0
  rw [h0,bS]
  unfold vV
  generalize l.findIdx (fun y=>decide (iL r y<0))=k at hk
  have s1:zV l 0 (k:Int)=some (l.take k):=Ja hk
  have s2:zV l (k:Int) (l.length:Int)=some (l.drop k):=by
    unfold zV
    rw [dT (show (0:Int)≤(k:Int) by omega),dT (show ((k:Int))≤(l.length:Int) by omega),dT (Int.le_refl _),Int.toNat_natCast,Int.toNat_natCast,List.take_length];rfl
  rw [s1,bS,vU (by simp;omega),bS,List.nil_append,vU (by simp;omega),bS,s2,bS,vU (by simp;omega),bS]
end Go.KB
