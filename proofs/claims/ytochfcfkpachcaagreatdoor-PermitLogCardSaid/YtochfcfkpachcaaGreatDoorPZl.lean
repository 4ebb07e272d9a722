/- Plain laws of chapter 7: loops, names, sets of names. Plain laws of chapter 7: searches, names, places of spaces and permits. Plain laws of chapter 7: CheckPlan. Plain laws of chapter 7: which plans are looked at. No condition. -/
import Derived.Test.YtochfcfkpachcaaGreatDoorPZa
import Derived.Test.YtochfcfkpachcaaGreatDoorGPure
namespace Go.KB
set_option linter.unusedVariables false
theorem w64i {n:Int} (h0:-9223372036854775808≤n) (h1:n≤9223372036854775807):IntKind.i64.wrap n=n:=Qd h0 h1
theorem dT {p:Prop} [Decidable p] (h:p):decide p=true:=decide_eq_true h
theorem dF {p:Prop} [Decidable p] (h:¬p):decide p=false:=decide_eq_false h
def iT (e:Nat→Int):Nat→Nat→Int
 | 0,_=>0
 | k+1,i=>if e i=0 then iT e k (i+1) else e i
theorem EX {e:Nat→Int}:∀ {k i:Nat},iT e k i=0→∀ j,i≤j→j<i+k→e j=0:=by
 intro k
 induction k with
 | zero=>intro i _ j h1 h2;omega
 | succ k ih =>
  intro i h j h1 h2
  simp only [iT] at h
  split at h
  ·rename_i h0
   rcases Nat.eq_or_lt_of_le h1 with rfl | h1
   ·exact h0
   ·exact ih h j h1 (by omega)
  ·rename_i h0;exact absurd h h0
def vJ {O:Type} (fin:O) (err:Int→O) (z:Int):O:=if z=0 then fin else err z
theorem MF {e:Nat→Int} {k i:Nat} (h:e i=0):iT e (k+1) i=iT e k (i+1):=by simp [iT,h]
theorem MG {e:Nat→Int} {k i:Nat} (h:e i≠0):iT e (k+1) i=e i:=by simp [iT,h]
theorem yN {O:Type} {n N:Nat} {f:Int→Option (Int ⊕ O)} {e:Nat→Int} {fin:O} {err:Int→O} (hf:∀ i:Nat,i<n→(∀ j,j<i→e j=0)→f (i:Int)=if e i=0 then some (.inl ((i+1:Nat):Int)) else some (.inr (err (e i)))) (he:(∀ j,j<n→e j=0)→f (n:Int)=some (.inr fin)) (hN:n<N) :
  eF f N 0=some (vJ fin err (iT e n 0)):=by
 have key:∀ k i,i+k=n→(∀ j,j<i→e j=0)→∀ M,k<M→eF f M (i:Int)=some (vJ fin err (iT e k i)):=by
  intro k
  induction k with
  | zero =>
   intro i hi hz M hM
   obtain ⟨M,rfl⟩:∃ m,M=m+1:=⟨M - 1,by omega⟩
   have:i=n:=by omega
   subst this
   simp only [eF,he hz,iT];rfl
  | succ k ih =>
   intro i hi hz M hM
   obtain ⟨M,rfl⟩:∃ m,M=m+1:=⟨M - 1,by omega⟩
   simp only [eF,hf i (by omega) hz]
   by_cases h0:e i=0
   ·rw [if_pos h0,MF h0]
    exact ih (i+1) (by omega) (fun j hj=>by
     rcases Nat.lt_succ_iff_lt_or_eq.1 hj with h | rfl
     ·exact hz j h
     ·exact h0) M (by omega)
   ·rw [if_neg h0,MG h0]
    unfold vJ
    rw [if_neg h0]
 exact key n 0 (by omega) (fun j hj=>absurd hj (Nat.not_lt_zero _)) N (by omega)
theorem QH {S O:Type} {n N:Nat} {f:S→Option (S ⊕ O)} {e:Nat→Int} {fin:O} {err:Int→O} (g:Nat→S) (hf:∀ i:Nat,i<n→(∀ j,j<i→e j=0)→f (g i)=if e i=0 then some (.inl (g (i+1))) else some (.inr (err (e i)))) (he:(∀ j,j<n→e j=0)→f (g n)=some (.inr fin)) (hN:n<N) :
  eF f N (g 0)=some (vJ fin err (iT e n 0)):=by
 have key:∀ k i,i+k=n→(∀ j,j<i→e j=0)→∀ M,k<M→eF f M (g i)=some (vJ fin err (iT e k i)):=by
  intro k
  induction k with
  | zero =>
   intro i hi hz M hM
   obtain ⟨M,rfl⟩:∃ m,M=m+1:=⟨M - 1,by omega⟩
   have:i=n:=by omega
   subst this
   simp only [eF,he hz,iT];rfl
  | succ k ih =>
   intro i hi hz M hM
   obtain ⟨M,rfl⟩:∃ m,M=m+1:=⟨M - 1,by omega⟩
   simp only [eF,hf i (by omega) hz]
   by_cases h0:e i=0
   ·rw [if_pos h0,MF h0]
    exact ih (i+1) (by omega) (fun j hj=>by
     rcases Nat.lt_succ_iff_lt_or_eq.1 hj with h | rfl
     ·exact hz j h
     ·exact h0) M (by omega)
   ·rw [if_neg h0,MG h0]
    unfold vJ
    rw [if_neg h0]
 exact key n 0 (by omega) (fun j hj=>absurd hj (Nat.not_lt_zero _)) N (by omega)
theorem Sr {α:Type} [Inhabited α] {l:List α} {i:Nat} (h:i<l.length):l[i]! = l[i]:=by simp [h]
theorem IZ {α:Type} [Inhabited α] {l:List α} {i:Nat} (h:i<l.length):idx l (i:Int)=some l[i]!:=by rw [jI h,Sr h]
theorem Qb {α:Type} {b:Bool} {x y:α}:(bif b then some x else some y)=some (bif b then x else y):=by cases b <;> rfl
theorem FX {α β:Type} [DecidableEq α] (z:β) (x k:α) (y:β):∀ m:List (α×β),fU z (qM m x y) k=if k=x then y else fU z m k
 | []=>by
  by_cases h:k=x
  ·subst h;simp [fU,qM]
  ·simp [fU,qM,h]
 | p :: r=>by
  by_cases hp:x=p.1
  ·subst hp
   by_cases h:k=p.1
   ·subst h;simp [fU,qM]
   ·simp [fU,qM,h]
  ·by_cases h : k = p.1
   ·subst h;simp [fU,qM,hp,Ne.symm hp]
   ·simp [fU,qM,hp,h,FX z x k y r]
theorem uj (a b:Str):BA .eql a b=decide (a=b):=by
 unfold BA
 rw [Bool.eq_iff_iff]
 simp
theorem KC (a b:Str):BA .neq a b = !decide (a=b):=by
 rw [← uj];rfl
def dup (nm:Nat→Str):Nat→Str→Bool
 | 0,_=>false
 | i+1,x=>decide (x=nm i)||dup nm i x
def seen (nm:Nat→Str):Nat→List (Str×Bool)
 | 0=>[]
 | i+1=>qM (seen nm i) (nm i) true
theorem KH (nm:Nat→Str) (x:Str):∀ i,fU false (seen nm i) x=dup nm i x
 | 0=>rfl
 | i+1=>by
  simp only [seen,dup,FX,KH nm x i]
  by_cases h:x=nm i <;> simp [h]
theorem Sz (nm:Nat→Str) (x:Str):∀ i,dup nm i x=true↔∃ j,j<i∧nm j=x
 | 0=>by simp [dup]
 | i+1=>by
  simp only [dup,Bool.or_eq_true,decide_eq_true_eq,Sz nm x i]
  constructor
  ·rintro (h | ⟨j,h1,h2⟩)
   ·exact ⟨i,by omega,h.symm⟩
   ·exact ⟨j,by omega,h2⟩
  ·rintro ⟨j,h1,h2⟩
   by_cases hj:j=i
   ·subst hj;exact .inl h2.symm
   ·exact .inr ⟨j,by omega,h2⟩
def same (nm:Nat→Str) (x:Str) (j:Nat):Int:=if nm j=x then 5 else 0
def Zm (x0:Str) (s1:Int):Option (Int ⊕ (Unit ⊕ Bool)) :=
 bif (aS .lss s1 (List.length x0:Int)) then ((idx x0 s1).bind fun v2=>bif ((!(((aS .geq ((UInt8.toNat v2:Nat):Int) 97)&&(aS .leq ((UInt8.toNat v2:Nat):Int) 122))||((aS .geq ((UInt8.toNat v2:Nat):Int) 65)&&(aS .leq ((UInt8.toNat v2:Nat):Int) 90))))&&((aS .eql s1 0)||((aS .neq ((UInt8.toNat v2:Nat):Int) 45)&&((aS .lss ((UInt8.toNat v2:Nat):Int) 48)||(aS .gtr ((UInt8.toNat v2:Nat):Int) 57))))) then (some (.inr (Sum.inr false))) else (some (.inl (IntKind.i64.wrap (s1+1))))) else (some (.inr (Sum.inl ())))
def nameF (N:Nat) (x0:Str):Option (Bool) :=
 bif ((aS .lss (List.length x0:Int) 1)||(aS .gtr (List.length x0:Int) 12)) then (some false) else ((eF (Zm x0) N 0).bind fun o5=>Sum.elim (fun l7=>some true) (fun r8=>some r8) o5)
theorem Zn {N:Nat} {s:Str} (hN:13≤N):nameF N s=some (iI s):=by
  unfold nameF
  by_cases hlen:s.length<1∨12<s.length
  · have hc:(aS .lss (s.length:Int) 1||aS .gtr (s.length:Int) 12)=true:=by
      simp;omega
    rw [hc,ni]
    congr 1
    unfold iI
    rcases hlen with h | h
    · have : s = [] := List.eq_nil_of_length_eq_zero (by omega)
      subst this;rfl
    · cases s with
      | nil=>rfl
      | cons c r=>simp at h;simp;intro h';omega
  · have hc:(aS .lss (s.length:Int) 1||aS .gtr (s.length:Int) 12)=false:=by
      rw [Bool.or_eq_false_iff];simp;omega
    rw [hc,nN]
    cases s with
    | nil=>simp at hlen
    | cons c r =>
      have hr:r.length<12:=by simp at hlen;omega
      have hbad:∀ i (hi:i<(c :: r).length),((!(((aS .geq ((UInt8.toNat (c :: r)[i]:Nat):Int) 97)&&(aS .leq ((UInt8.toNat (c :: r)[i]:Nat):Int) 122))||((aS .geq ((UInt8.toNat (c :: r)[i]:Nat):Int) 65)&&(aS .leq ((UInt8.toNat (c :: r)[i]:Nat):Int) 90))))&&((aS .eql (i:Int) 0)||((aS .neq ((UInt8.toNat (c :: r)[i]:Nat):Int) 45)&&((aS .lss ((UInt8.toNat (c :: r)[i]:Nat):Int) 48)||(aS .gtr ((UInt8.toNat (c :: r)[i]:Nat):Int) 57))))) =
          !(if i=0 then yL (c :: r)[i] else ul (c :: r)[i]):=by
        intro i hi
        split
        · rename_i h0;subst h0
          simp only [uz,Int.natCast_zero,decide_true,Bool.true_or,Bool.and_true]
          rfl
        · rename_i h0
          rw [uz,show decide ((i:Int)=0)=false by rw [decide_eq_false_iff_not];omega,Bool.false_or]
          unfold ul yL chr
          simp only [qV,dw,wB,zx,zy]
          generalize ((UInt8.toNat (c :: r)[i]:Nat):Int)=x
          rw [Bool.eq_iff_iff]
          simp only [Bool.and_eq_true,Bool.or_eq_true,Bool.not_eq_true',Bool.or_eq_false_iff,Bool.and_eq_false_iff,decide_eq_true_eq,decide_eq_false_iff_not]
          omega
      rw [Us (c :: r).length (if iI (c :: r) then .inl () else .inr false) (fun i=>∀ j (h:j<(c :: r).length),j<i→(if j=0 then yL (c :: r)[j] else ul (c :: r)[j])=true) ?_ ?_ (fun j _ h=>absurd h (Nat.not_lt_zero _)) N (by simp;omega)]
      · cases iI (c :: r) <;> rfl
      · intro i hi hp
        unfold Zm
        rw [dw,show decide ((i:Int)<((c :: r).length:Int))=true by rw [decide_eq_true_eq];omega,ni,jI hi,bS,hbad i hi,rJ (show i<9223372036854775807 by simp at hi;omega)]
        cases hg:(if i=0 then yL (c :: r)[i] else ul (c :: r)[i]) with
        | true =>
          refine .inl ⟨rfl,fun j hj hji=>?_⟩
          rcases Nat.lt_succ_iff_lt_or_eq.1 hji with h | rfl
          · exact hp j hj h
          · exact hg
        | false =>
          refine .inr ?_
          have:iI (c :: r)=false:=by
            rw [Bool.eq_false_iff]
            intro h
            simp only [iI,Bool.and_eq_true,decide_eq_true_eq] at h
            obtain ⟨⟨_,h1⟩,h2⟩:=h
            rw [List.all_eq_true] at h2
            cases i with
            | zero=>simp [h1] at hg
            | succ i =>
              simp at hg
              have:=h2 _ (List.getElem_mem (by simpa using hi:i<r.length))
              rw [this] at hg;cases hg
          rw [this];rfl
      · intro hp
        unfold Zm
        rw [dw,show decide ((((c :: r).length:Nat):Int)<((c :: r).length:Int))=false by simp,nN]
        have:iI (c :: r)=true:=by
          simp only [iI,Bool.and_eq_true,decide_eq_true_eq]
          refine ⟨⟨hr,(by have h:=hp 0 (by simp) (by simp);rw [if_pos rfl] at h;exact h)⟩,?_⟩
          rw [List.all_eq_true]
          intro x hx
          obtain ⟨j,hj,rfl⟩:=List.getElem_of_mem hx
          have:=hp (j+1) (by simp;omega) (by simp;omega)
          simpa using this
        rw [this];rfl
theorem QI {N:Nat} {s:Str} (hN:13≤N):zf N s=some (iI s):=Zn hN
end Go.KB
namespace Go.KB
set_option linter.unusedVariables false
theorem O9 {O:Type} {n N:Nat} {f:Int→Option (Int ⊕ O)} (R:Nat→O) (hf:∀ i:Nat,i<n→(f (i:Int)=some (.inl ((i+1:Nat):Int))∧R i=R (i+1))∨f (i:Int)=some (.inr (R i))) (he:f (n:Int)=some (.inr (R n))) (hN:n<N):eF f N 0=some (R 0):=by
 have key:∀ k i,i+k=n→∀ M,k<M→eF f M (i:Int)=some (R i):=by
  intro k
  induction k with
  | zero =>
   intro i hi M hM
   obtain ⟨M,rfl⟩:∃ m,M=m+1:=⟨M - 1,by omega⟩
   have:i=n:=by omega
   subst this
   simp only [eF,he]
  | succ k ih =>
   intro i hi M hM
   obtain ⟨M,rfl⟩:∃ m,M=m+1:=⟨M - 1,by omega⟩
   rcases hf i (by omega) with ⟨h1,h2⟩ | h1
   ·simp only [eF,h1];rw [h2];exact ih (i+1) (by omega) M (by omega)
   ·simp only [eF,h1]
 exact key n 0 (by omega) N (by omega)
theorem drop_at {α:Type} {l:List α} {i:Nat} (h:i<l.length):l.drop i=l[i] :: l.drop (i+1):=List.drop_eq_getElem_cons h
theorem OV {α:Type} {l:List α} {N:Nat} {f:Int→Option (Int ⊕ (Unit ⊕ Bool))} {g:α→Bool} (hf:∀ (i:Nat) (h:i<l.length),f (i:Int)=bif g l[i] then some (.inl ((i+1:Nat):Int)) else some (.inr (.inr false))) (he:f (l.length:Int)=some (.inr (.inl ()))) (hN:l.length<N) :
  ((eF f N 0).bind fun o=>Sum.elim (fun _=>some true) (fun r=>some r) o)=some (l.all g):=by
 rw [O9 (fun i=>bif (l.drop i).all g then .inl () else .inr false) (fun i hi=>?_) (by simp [he]) hN]
 ·simp only [List.drop_zero,bS];cases l.all g <;> rfl
 ·rw [hf i hi]
  simp only [drop_at hi,List.all_cons]
  cases g l[i]
  ·exact .inr rfl
  ·exact .inl ⟨rfl,by simp⟩
def MV {α:Type} (g:α→Bool) (l:List α):Int:=if l.findIdx g<l.length then (l.findIdx g:Int) else -1
theorem yV {α:Type} {l:List α} {N:Nat} {f:Int→Option (Int ⊕ (Unit ⊕ Int))} {g:α→Bool} (hf:∀ (i:Nat) (h:i<l.length),f (i:Int)=bif g l[i] then some (.inr (.inr (i:Int))) else some (.inl ((i+1:Nat):Int))) (he:f (l.length:Int)=some (.inr (.inl ()))) (hN:l.length<N) :
  ((eF f N 0).bind fun o=>Sum.elim (fun _=>some (-1:Int)) (fun r=>some r) o)=some (MV g l):=by
 rw [O9 (fun i=>if (l.drop i).findIdx g<(l.drop i).length then .inr (((i+(l.drop i).findIdx g:Nat)):Int) else .inl ()) (fun i hi=>?_) (by simp [he]) hN]
 ·simp only [List.drop_zero,Nat.zero_add,bS,MV];split <;> rfl
 ·rw [hf i hi]
  simp only [drop_at hi,List.findIdx_cons]
  cases g l[i]
  ·refine .inl ⟨rfl,?_⟩
   simp only [nN,List.length_cons,Nat.add_lt_add_iff_right]
   split
   ·congr 2;omega
   ·rfl
  ·refine .inr ?_
   simp only [ni,List.length_cons,Nat.zero_lt_succ,if_true,Nat.add_zero]
theorem EL {α:Type} {g:α→Bool} {l:List α} (h:l.findIdx g<l.length):MV g l=(l.findIdx g:Int):=if_pos h
theorem GL {α:Type} {g:α→Bool} {l:List α} (h:¬ l.findIdx g<l.length):MV g l = -1:=if_neg h
theorem GK {α:Type} {g:α→Bool} {l:List α}:decide (MV g l<0) = !l.any g:=by
 have:l.any g=true↔l.findIdx g<l.length:=by
  rw [List.any_eq_true]
  exact List.findIdx_lt_length.symm
 by_cases h:l.findIdx g<l.length
 ·rw [EL h,this.2 h];simp
 ·rw [GL h,Bool.eq_false_iff.2 (fun x=>h (this.1 x))];rfl
theorem Ar {N:Nat} {s:Str} (hN:13≤N):nM N s=some (iI s):=by
  unfold nM
  by_cases hlen:s.length<1∨12<s.length
  · have hc : (aS .lss (s.length : Int) 1 || aS .gtr (s.length : Int) 12) = true := by simp; omega
    rw [hc]
    simp only [Bool.not_true,nN,bS,Bool.true_or,ni]
    congr 1
    unfold iI
    rcases hlen with h | h
    · have : s = [] := List.eq_nil_of_length_eq_zero (by omega)
      subst this;rfl
    · cases s with
      | nil=>rfl
      | cons c r=>simp at h;simp;intro h';omega
  · have hc : (aS .lss (s.length : Int) 1 || aS .gtr (s.length : Int) 12) = false := by rw [Bool.or_eq_false_iff]; simp; omega
    rw [hc]
    cases s with
    | nil=>simp at hlen
    | cons c r =>
      have hr:r.length<12:=by simp at hlen;omega
      have hl:∀ x:UInt8,xE N ((UInt8.toNat x:Nat):Int)=some (yL x):=fun x=>rfl
      have h0:idx (c :: r) 0=some c:=by have:=jI (xs:=c :: r) (i:=0) (by simp);simpa using this
      simp only [Bool.not_false,ni,h0,bS,hl,Bool.false_or]
      cases hc:yL c with
      | false=>simp [iI,hc]
      | true =>
        simp only [Bool.not_true,nN]
        have h1:∀ (i:Nat) (hi:i<(c :: r).length),rH N (c :: r) (i:Int)=bif ul (c :: r)[i] then some (.inl ((i+1:Nat):Int)) else some (.inr (.inr false)):=by
          intro i hi
          unfold rH
          rw [dw,dT (by omega),ni,jI hi,bS,hl,bS,rJ (show i<9223372036854775807 by simp at hi;omega)]
          have:((!yL (c :: r)[i]&&aS .neq ((UInt8.toNat (c :: r)[i]:Nat):Int) 45)&&(aS .lss ((UInt8.toNat (c :: r)[i]:Nat):Int) 48||aS .gtr ((UInt8.toNat (c :: r)[i]:Nat):Int) 57)) = !ul (c :: r)[i]:=by
            unfold ul chr
            cases yL (c :: r)[i]
            · simp only [Bool.not_false,Bool.true_and,Bool.false_or,qV,dw,wB]
              generalize ((UInt8.toNat (c :: r)[i]:Nat):Int)=x
              rw [Bool.eq_iff_iff]
              simp only [Bool.and_eq_true,Bool.or_eq_true,Bool.not_eq_true',Bool.or_eq_false_iff,Bool.and_eq_false_iff,decide_eq_true_eq,decide_eq_false_iff_not]
              omega
            · simp
          rw [this]
          cases ul (c :: r)[i] <;> rfl
        have h2:rH N (c :: r) ((c :: r).length:Int)=some (.inr (.inl ())):=by
          unfold rH
          rw [dw,dF (by omega),nN]
        rw [OV h1 h2 (by simp;omega)]
        simp [iI,hc,ul,hr]
instance:Inhabited dH:=⟨⟨[],false,[]⟩⟩
instance:Inhabited aP:=⟨⟨[],0,[],0,0,[]⟩⟩
instance:Inhabited cZ:=⟨⟨0,0,0⟩⟩
def isS (s:Str) (y:dH):Bool:=decide (y.Name=s)
def Qa (s:Str) (y:aP):Bool:=decide (y.Name=s)
theorem XI {N:Nat} {l:List dH} {f:dH→Option Bool} {g:dH→Bool} (hf:∀ y,f y=some (g y)) (hl:l.length<1000000) (hN:1000000≤N):kF N l f=some (MV g l):=by
 unfold kF
 refine yV (fun i hi=>?_) ?_ (by omega)
 ·unfold jL
  rw [dw,dT (by omega),ni,jI hi,bS,hf,bS,rJ (by omega)]
 ·unfold jL
  rw [dw,dF (by omega),nN]
theorem XJ {N:Nat} {l:List aP} {f:aP→Option Bool} {g:aP→Bool} (hf:∀ y,f y=some (g y)) (hl:l.length<1000000) (hN:1000000≤N):jR N l f=some (MV g l):=by
 unfold jR
 refine yV (fun i hi=>?_) ?_ (by omega)
 ·unfold jq
  rw [dw,dT (by omega),ni,jI hi,bS,hf,bS,rJ (by omega)]
 ·unfold jq
  rw [dw,dF (by omega),nN]
theorem LK {N:Nat} {p:GPermitPlan} {s:Str} (hl:p.dA.length<1000000) (hN:1000000≤N):vW N p s=some (MV (isS s) p.dA):=by
 unfold vW
 refine yV (fun i hi=>?_) ?_ (by omega)
 ·unfold wM
  rw [dw,dT (by omega),ni,jI hi,bS,uj,rJ (by omega)];rfl
 ·unfold wM
  rw [dw,dF (by omega),nN]
theorem PG {N:Nat} {p:GPermitPlan} {s:Str} (hl:p.aH.length<1000000) (hN:1000000≤N):wP N p s=some (MV (Qa s) p.aH):=by
 unfold wP
 refine yV (fun i hi=>?_) ?_ (by omega)
 ·unfold vw
  rw [dw,dT (by omega),ni,jI hi,bS,uj,rJ (by omega)];rfl
 ·unfold vw
  rw [dw,dF (by omega),nN]
def AX {α:Type} (z:α) (g:α→Bool) (l:List α):α×Bool:=match l.find? g with | some y=>(y,true) | none=>(z,false)
theorem SA {α:Type} {g:α→Bool}:∀ {l:List α},(l.findIdx g<l.length∧∃ h:l.findIdx g<l.length,l.find? g=some l[l.findIdx g])∨(¬ l.findIdx g<l.length∧l.find? g=none):=by
 intro l
 by_cases h:l.findIdx g<l.length
 ·refine .inl ⟨h,h,?_⟩
  exact (List.find?_eq_getElem?_findIdx ..).trans (List.getElem?_eq_getElem h)
 ·refine .inr ⟨h,?_⟩
  rw [List.find?_eq_getElem?_findIdx,List.getElem?_eq_none (by omega)]
theorem yK {N:Nat} {p:GPermitPlan} {s:Str} (hl:p.dA.length<1000000) (hN:1000000≤N):iY N p s=some (AX ⟨[],false,[]⟩ (isS s) p.dA):=by
 unfold iY
 rw [XI (g:=isS s) (fun y=>by unfold uh;rw [uj];rfl) hl hN,bS,dw]
 unfold AX
 rcases SA (g:=isS s) (l:=p.dA) with ⟨_,h,h2⟩ | ⟨h,h2⟩
 ·rw [h2,EL h,dF (by omega),nN,jI h];rfl
 ·rw [h2,GL h];rfl
theorem Cb {N:Nat} {p:GPermitPlan} {s:Str} (hl:p.aH.length<1000000) (hN:1000000≤N):mQ N p s=some (AX ⟨[],0,[],0,0,[]⟩ (Qa s) p.aH):=by
 unfold mQ
 rw [XJ (g:=Qa s) (fun y=>by unfold sV;rw [uj];rfl) hl hN,bS,dw]
 unfold AX
 rcases SA (g:=Qa s) (l:=p.aH) with ⟨_,h,h2⟩ | ⟨h,h2⟩
 ·rw [h2,EL h,dF (by omega),nN,jI h];rfl
 ·rw [h2,GL h];rfl
theorem FV {α:Type} {z:α} {g:α→Bool} {l:List α}:(AX z g l).2=l.any g:=by
 unfold AX
 cases h:l.find? g with
 | none=>simp only [];rw [eq_comm,Bool.eq_false_iff];intro hx;rw [List.any_eq_true] at hx;obtain ⟨x,hx,hg⟩:=hx;exact absurd hg (by simpa using List.find?_eq_none.1 h x hx)
 | some y=>simp only [];rw [eq_comm,List.any_eq_true];exact ⟨y,List.mem_of_find?_eq_some h,List.find?_some h⟩
end Go.KB
namespace Go.KB
set_option linter.unusedVariables false
def Ii (a b:Int):Int:=if a=0 then b else a
def Bo (k:Int):Bool:=decide (0≤k)&&decide (k≤5)
def KJ (p:GPermitPlan) (i:Nat):Str:=p.dA[i]!.Name
def NC (p:GPermitPlan) (i:Nat):Str:=p.aH[i]!.Name
def yg (p:GPermitPlan) (s:Str):Bool:=p.dA.any (isS s)
def lZ (p:GPermitPlan) (s:Str):Bool:=p.aH.any (Qa s)
def qK (p:GPermitPlan) (s:Str):aP:=(AX ⟨[],0,[],0,0,[]⟩ (Qa s) p.aH).1
def zM (p:GPermitPlan) (s:Str):dH:=(AX ⟨[],false,[]⟩ (isS s) p.dA).1
def Zj (p:GPermitPlan) (i:Nat):Int:=if iI (KJ p i)=false then 4 else if dup (KJ p) i (KJ p i)=true then 5 else if 30<p.dA[i]!.Next.length then 8 else 0
def eNx (p:GPermitPlan) (y:dH) (j:Nat):Int:=if yg p y.Next[j]! = false then 6 else if y.Next[j]! = y.Name then 3 else 0
def PI (p:GPermitPlan) (i:Nat):Int:=iT (eNx p p.dA[i]!) p.dA[i]!.Next.length 0
def eEx (p:GPermitPlan) (i:Nat):Int:=if Bo p.dR[i]!.A=false∨Bo p.dR[i]!.B=false∨p.dR[i]!.Reach<0∨2<p.dR[i]!.Reach then 2 else 0
def ePm (p:GPermitPlan) (i:Nat):Int:=if iI (NC p i)=false then 4 else if dup (NC p) i (NC p i)=true then 5 else
 if Bo p.aH[i]!.Kind=false∨p.aH[i]!.From<0∨p.aH[i]!.To≤p.aH[i]!.From∨1000000<p.aH[i]!.To then 2 else if yg p p.aH[i]!.Space=false then 6 else if 10<p.aH[i]!.Locks.length then 8 else 0
def eLk (p:GPermitPlan) (y:aP) (j:Nat):Int:=if lZ p y.Locks[j]! = false then 6 else if (qK p y.Locks[j]!).Kind≠5∨y.Kind=5 then 3 else 0
def Ut (p:GPermitPlan) (i:Nat):Int:=iT (eLk p p.aH[i]!) p.aH[i]!.Locks.length 0
def uU (p:GPermitPlan):Int:=if 30<p.dA.length∨30<p.dR.length∨20<p.aH.length then 8 else if p.dK<1∨10000<p.dK then 2 else
 Ii (Ii (iT (Zj p) p.dA.length 0) (iT (PI p) p.dA.length 0)) (Ii (iT (eEx p) p.dR.length 0) (Ii (iT (ePm p) p.aH.length 0) (iT (Ut p) p.aH.length 0)))
structure H8 (p:GPermitPlan):Prop where
 s:p.dA.length<1000
 x:p.dR.length<1000
 m:p.aH.length<1000
 n:∀ y ∈ p.dA,y.Next.length<1000
 l:∀ y ∈ p.aH,y.Locks.length<1000
theorem FU {α:Type} [Inhabited α] {l:List α} {i:Nat} (h:i<l.length):l[i]! ∈ l:=by rw [Sr h];exact List.getElem_mem h
theorem vX {A:Type} {fin:A} {E:Int} {K:A→Option Int}:((some (vJ (Sum.inl fin) (fun e=>Sum.inr e) E):Option (A ⊕ Int)).bind fun o=>Sum.elim (fun l=>K l) (fun r=>some r) o)=if E=0 then K fin else some E:=by
 unfold vJ
 by_cases h:E=0
 ·rw [if_pos h,if_pos h];rfl
 ·rw [if_neg h,if_neg h];rfl
theorem VA {α:Type} [Inhabited α] {nm:α→Str} {x:Str} {l:List α} {i:Nat} (hi:i≤l.length):dup (fun j=>nm l[j]!) i x=(decide (0≤MV (fun y=>decide (nm y=x)) l)&&decide (MV (fun y=>decide (nm y=x)) l<(i:Int))):=by
 rw [Bool.eq_iff_iff,Sz,Bool.and_eq_true,decide_eq_true_eq,decide_eq_true_eq]
 constructor
 ·rintro ⟨j,hj,hx⟩
  have hjl:j<l.length:=by omega
  rw [Sr hjl] at hx
  have hle:l.findIdx (fun y=>decide (nm y=x))≤j:=by
   rcases Nat.lt_or_ge j (l.findIdx (fun y=>decide (nm y=x))) with h | h
   ·exact absurd (List.not_of_lt_findIdx h) (by simp [hx])
   ·exact h
  rw [EL (by omega)]
  omega
 ·rintro ⟨h1,h2⟩
  by_cases h:l.findIdx (fun y=>decide (nm y=x))<l.length
  ·rw [EL h] at h2
   refine ⟨l.findIdx (fun y=>decide (nm y=x)),by omega,?_⟩
   show nm l[l.findIdx (fun y=>decide (nm y=x))]! = x
   rw [Sr h]
   have:=List.findIdx_getElem (xs:=l) (p:=fun y=>decide (nm y=x)) (w:=h)
   simpa using this
  ·rw [GL h] at h1;omega
theorem jJe {α:Type} [Inhabited α] {nm:α→Str} {x:Str} {l:List α}:dup (fun j=>nm l[j]!) l.length x=l.any (fun y=>decide (nm y=x)):=by
 rw [VA (Nat.le_refl _)]
 have:=GK (g:=fun y=>decide (nm y=x)) (l:=l)
 by_cases h:l.findIdx (fun y=>decide (nm y=x))<l.length
 ·rw [EL h] at this ⊢
  rw [dF (by omega)] at this
  rw [dT (by omega),dT (by omega)]
  cases hx:l.any (fun y=>decide (nm y=x)) with
  | true=>rfl
  | false=>rw [hx] at this;cases this
 ·rw [GL h] at this ⊢
  cases hx:l.any (fun y=>decide (nm y=x)) with
  | false=>rfl
  | true=>rw [hx] at this;cases this
theorem WO {N:Nat} {k:Int}:xN N k=some (Bo k):=rfl
theorem Zo {N:Nat} {k:Int}:yS N k=some (Bo k):=rfl
section
variable {N:Nat} {p:GPermitPlan} (hp:H8 p) (hN:1000000≤N)
include hp hN
theorem cs3:eF (nU N p) N (([]:List (Str×Bool)),0)=some (vJ (.inl (seen (KJ p) p.dA.length)) (fun e=>.inr e) (iT (Zj p) p.dA.length 0)):=by
 have hs:=hp.s
 refine QH (fun i=>(seen (KJ p) i,(i:Int))) (fun i hi _=>?_) (fun _=>?_) (by omega)
 ·unfold nU Zj
  simp only []
  rw [dw,dT (by omega),ni,IZ hi,bS,Ar (by omega),bS,KH,rJ (by omega),wB]
  show (bif !iI (KJ p i) then _ else bif dup (KJ p) i (KJ p i) then _ else _)=_
  cases iI (KJ p i) with
  | false=>rfl
  | true =>
   cases dup (KJ p) i (KJ p i) with
   | true=>rfl
   | false =>
    by_cases h:30<p.dA[i]!.Next.length
    ·rw [dT (show (30:Int)<(p.dA[i]!.Next.length:Int) by omega),if_pos h];rfl
    ·rw [dF (show ¬ (30:Int)<(p.dA[i]!.Next.length:Int) by omega),if_neg h];rfl
 ·unfold nU
  simp only []
  rw [dw,dF (by omega),nN]
theorem cs1 {y:dH} (hy:y ∈ p.dA):eF (nX N (seen (KJ p) p.dA.length) y) N 0=some (vJ (.inl ()) (fun e=>.inr e) (iT (eNx p y) y.Next.length 0)):=by
 have hl:=hp.n y hy
 refine yN (fun i hi _=>?_) (fun _=>?_) (by omega)
 ·unfold nX eNx
  rw [dw,dT (by omega),ni,IZ hi,bS,KH,show dup (KJ p) p.dA.length y.Next[i]! = yg p y.Next[i]! from jJe,rJ (by omega),uj]
  cases yg p y.Next[i]! with
  | false=>rfl
  | true =>
   by_cases h:y.Next[i]! = y.Name
   ·rw [dT h,if_pos h];rfl
   ·rw [dF h,if_neg h];rfl
 ·unfold nX
  rw [dw,dF (by omega),nN]
theorem cs2:eF (nV N p (seen (KJ p) p.dA.length)) N 0=some (vJ (.inl ()) (fun e=>.inr e) (iT (PI p) p.dA.length 0)):=by
 have hs:=hp.s
 refine yN (fun i hi _=>?_) (fun _=>?_) (by omega)
 ·unfold nV
  rw [dw,dT (by omega),ni,IZ hi,bS,cs1 hp hN (FU hi),rJ (by omega),bS]
  show Sum.elim _ _ (vJ _ _ (PI p i))=_
  unfold vJ
  by_cases h:PI p i=0
  ·rw [if_pos h,if_pos h];rfl
  ·rw [if_neg h,if_neg h];rfl
 ·unfold nV
  rw [dw,dF (by omega),nN]
theorem PK:rX N p=some (Ii (iT (Zj p) p.dA.length 0) (iT (PI p) p.dA.length 0)):=by
 unfold rX
 rw [cs3 hp hN,vX,cs2 hp hN,vX]
 unfold Ii
 split
 ·split
  ·rename_i h;rw [h]
  ·rfl
 ·rfl
theorem rcs3:eF (oD N p) N 0=some (vJ (.inl ()) (fun e=>.inr e) (iT (Zj p) p.dA.length 0)):=by
 have hs:=hp.s
 refine yN (fun i hi _=>?_) (fun _=>?_) (by omega)
 ·unfold oD Zj
  rw [dw,dT (by omega),ni,IZ hi,bS,QI (by omega),bS]
  have hd:wO N p (i:Int) (KJ p i)=some (dup (KJ p) i (KJ p i)):=by
   unfold wO
   rw [LK (by omega) hN,bS,zx,dw]
   exact congrArg some (VA (nm:=dH.Name) (x:=KJ p i) (l:=p.dA) (Nat.le_of_lt hi)).symm
  rw [bS,show wO N p (i:Int) p.dA[i]!.Name=_ from hd,bS,bS,rJ (by omega),wB]
  show (bif !iI (KJ p i) then _ else bif dup (KJ p) i (KJ p i) then _ else _)=_
  cases iI (KJ p i) with
  | false=>rfl
  | true =>
   cases dup (KJ p) i (KJ p i) with
   | true=>rfl
   | false =>
    by_cases h:30<p.dA[i]!.Next.length
    ·rw [dT (show (30:Int)<(p.dA[i]!.Next.length:Int) by omega),if_pos h];rfl
    ·rw [dF (show ¬ (30:Int)<(p.dA[i]!.Next.length:Int) by omega),if_neg h];rfl
 ·unfold oD
  rw [dw,dF (by omega),nN]
theorem rcs1 {i:Nat} (hi:i<p.dA.length):eF (oH N p (i:Int)) N 0=some (vJ (.inl ()) (fun e=>.inr e) (PI p i)):=by
 have hl:=hp.n _ (FU hi)
 have hs:=hp.s
 refine yN (fun j hj _=>?_) (fun _=>?_) (by omega)
 ·unfold oH eNx
  rw [IZ hi,bS,dw,dT (by omega),ni,bS,IZ hj,bS,LK (by omega) hN,bS,dw,GK,bS,IZ hj,bS,bS,rJ (by omega),uj]
  show (bif !yg p _ then _ else _)=_
  cases yg p p.dA[i]!.Next[j]! with
  | false=>rfl
  | true =>
   by_cases h:p.dA[i]!.Next[j]! = p.dA[i]!.Name
   ·rw [dT h,if_pos h];rfl
   ·rw [dF h,if_neg h];rfl
 ·unfold oH
  rw [IZ hi,bS,dw,dF (by omega),nN]
theorem rcs2:eF (oG N p) N 0=some (vJ (.inl ()) (fun e=>.inr e) (iT (PI p) p.dA.length 0)):=by
 have hs:=hp.s
 refine yN (fun i hi _=>?_) (fun _=>?_) (by omega)
 ·unfold oG
  rw [dw,dT (by omega),ni,rcs1 hp hN hi,rJ (by omega),bS]
  unfold vJ
  by_cases h:PI p i=0
  ·rw [if_pos h,if_pos h];rfl
  ·rw [if_neg h,if_neg h];rfl
 ·unfold oG
  rw [dw,dF (by omega),nN]
theorem MW:sU N p=some (Ii (iT (Zj p) p.dA.length 0) (iT (PI p) p.dA.length 0)):=by
 unfold sU
 rw [rcs3 hp hN,vX,rcs2 hp hN,vX]
 unfold Ii
 split
 ·split
  ·rename_i h;rw [h]
  ·rfl
 ·rfl
omit hp hN in
theorem ex_eq {a b:Bool} {r:Int}:((((!a)||(!(bif !(!a) then b else false)))||(aS .lss r 0))||(aS .gtr r 2))=decide (a=false∨b=false∨r<0∨2<r):=by
 rw [Bool.eq_iff_iff,dw,wB]
 cases a <;> cases b <;> simp
omit hN in
theorem exL (hN2:p.dR.length<N):eF (oV N p) N 0=some (vJ (.inl ()) (fun e=>.inr e) (iT (eEx p) p.dR.length 0)):=by
 have hs:=hp.x
 refine yN (fun i hi _=>?_) (fun _=>?_) hN2
 ·unfold oV eEx
  simp only [WO]
  rw [dw,dT (by omega),ni,IZ hi,bS,bS,Qb,bS,rJ (by omega),ex_eq]
  by_cases h:Bo p.dR[i]!.A=false∨Bo p.dR[i]!.B=false∨p.dR[i]!.Reach<0∨2<p.dR[i]!.Reach
  ·rw [dT h,if_pos h];rfl
  ·rw [dF h,if_neg h];rfl
 ·unfold oV
  rw [dw,dF (by omega),nN]
omit hN in
theorem rexL (hN2:p.dR.length<N):eF (vC N p) N 0=some (vJ (.inl ()) (fun e=>.inr e) (iT (eEx p) p.dR.length 0)):=exL hp hN2
omit hp hN in
theorem rg_eq {a:Bool} {x y:Int}:((((!a)||(aS .lss x 0))||(aS .geq x y))||(aS .gtr y 1000000))=decide (a=false∨x<0∨y≤x∨1000000<y):=by
 rw [Bool.eq_iff_iff,dw,wB,zx]
 cases a <;> simp [or_assoc]
theorem pm3:eF (nI N p) N (([]:List (Str×Bool)),0)=some (vJ (.inl ()) (fun e=>.inr e) (iT (ePm p) p.aH.length 0)):=by
 have hs:=hp.s
 have hm:=hp.m
 refine QH (fun i=>(seen (NC p) i,(i:Int))) (fun i hi _=>?_) (fun _=>?_) (by omega)
 ·unfold nI ePm
  simp only []
  rw [dw,dT (by omega),ni,IZ hi,bS,yK (by omega) hN,bS,Ar (by omega),bS,KH,rJ (by omega),WO,bS,rg_eq,FV,wB]
  show (bif !iI (NC p i) then _ else bif dup (NC p) i (NC p i) then _ else bif _ then _ else bif !yg p p.aH[i]!.Space then _ else _)=_
  cases iI (NC p i) with
  | false=>rfl
  | true =>
   cases dup (NC p) i (NC p i) with
   | true=>rfl
   | false =>
    by_cases h:Bo p.aH[i]!.Kind=false∨p.aH[i]!.From<0∨p.aH[i]!.To≤p.aH[i]!.From∨1000000<p.aH[i]!.To
    ·rw [dT h,if_pos h];rfl
    ·rw [dF h,if_neg h]
     cases yg p p.aH[i]!.Space with
     | false=>rfl
     | true =>
      by_cases h:10<p.aH[i]!.Locks.length
      ·rw [dT (show (10:Int)<(p.aH[i]!.Locks.length:Int) by omega),if_pos h];rfl
      ·rw [dF (show ¬ (10:Int)<(p.aH[i]!.Locks.length:Int) by omega),if_neg h];rfl
 ·unfold nI
  simp only []
  rw [dw,dF (by omega),nN]
theorem rpm3:eF (ql N p) N 0=some (vJ (.inl ()) (fun e=>.inr e) (iT (ePm p) p.aH.length 0)):=by
 have hs:=hp.s
 have hm:=hp.m
 refine yN (fun i hi _=>?_) (fun _=>?_) (by omega)
 ·unfold ql ePm
  have hd:aS .lss (MV (Qa p.aH[i]!.Name) p.aH) (i:Int)=dup (NC p) i (NC p i):=by
   have h1:=VA (nm:=aP.Name) (x:=NC p i) (l:=p.aH) (Nat.le_of_lt hi)
   have h2:(0:Int)≤MV (Qa p.aH[i]!.Name) p.aH:=by
    have:=GK (g:=Qa p.aH[i]!.Name) (l:=p.aH)
    have h3:p.aH.any (Qa p.aH[i]!.Name)=true:=List.any_eq_true.2 ⟨_,FU hi,by simp [Qa]⟩
    rw [h3] at this
    simpa using this
   rw [dw]
   show _=dup (fun j=>p.aH[j]!.Name) i (NC p i)
   rw [h1]
   show _=(decide ((0:Int)≤MV (Qa p.aH[i]!.Name) p.aH)&&decide (MV (Qa p.aH[i]!.Name) p.aH<(i:Int)))
   rw [dT h2,Bool.true_and]
  rw [dw,dT (by omega),ni,IZ hi,bS,QI (by omega),bS,PG (by omega) hN,bS,hd,Zo,bS,rg_eq,LK (by omega) hN,bS,dw,GK,wB,rJ (by omega)]
  show (bif !iI (NC p i) then _ else bif dup (NC p) i (NC p i) then _ else bif _ then _ else bif !yg p p.aH[i]!.Space then _ else _)=_
  cases iI (NC p i) with
  | false=>rfl
  | true =>
   cases dup (NC p) i (NC p i) with
   | true=>rfl
   | false =>
    by_cases h:Bo p.aH[i]!.Kind=false∨p.aH[i]!.From<0∨p.aH[i]!.To≤p.aH[i]!.From∨1000000<p.aH[i]!.To
    ·rw [dT h,if_pos h];rfl
    ·rw [dF h,if_neg h]
     cases yg p p.aH[i]!.Space with
     | false=>rfl
     | true =>
      by_cases h:10<p.aH[i]!.Locks.length
      ·rw [dT (show (10:Int)<(p.aH[i]!.Locks.length:Int) by omega),if_pos h];rfl
      ·rw [dF (show ¬ (10:Int)<(p.aH[i]!.Locks.length:Int) by omega),if_neg h];rfl
 ·unfold ql
  rw [dw,dF (by omega),nN]
omit hp hN in
theorem lk_eq {a b:Int}:((aS .neq a 5)||(aS .eql b 5))=decide (a≠5∨b=5):=by
 rw [Bool.eq_iff_iff,qV,uz];simp
theorem lk1 {y:aP} (hy:y ∈ p.aH):eF (nK N p y) N 0=some (vJ (.inl ()) (fun e=>.inr e) (iT (eLk p y) y.Locks.length 0)):=by
 have hm:=hp.m
 have hl:=hp.l y hy
 refine yN (fun i hi _=>?_) (fun _=>?_) (by omega)
 ·unfold nK eLk
  rw [dw,dT (by omega),ni,IZ hi,bS,Cb (by omega) hN,bS,FV,lk_eq,rJ (by omega)]
  show (bif !lZ p y.Locks[i]! then _ else bif decide ((qK p y.Locks[i]!).Kind≠5∨y.Kind=5) then _ else _)=_
  cases lZ p y.Locks[i]! with
  | false=>rfl
  | true =>
   by_cases h:(qK p y.Locks[i]!).Kind≠5∨y.Kind=5
   ·rw [dT h,if_pos h];rfl
   ·rw [dF h,if_neg h];rfl
 ·unfold nK
  rw [dw,dF (by omega),nN]
theorem lk2:eF (nJ N p) N 0=some (vJ (.inl ()) (fun e=>.inr e) (iT (Ut p) p.aH.length 0)):=by
 have hm:=hp.m
 refine yN (fun i hi _=>?_) (fun _=>?_) (by omega)
 ·unfold nJ
  rw [dw,dT (by omega),ni,IZ hi,bS,lk1 hp hN (FU hi),rJ (by omega),bS]
  show Sum.elim _ _ (vJ _ _ (Ut p i))=_
  unfold vJ
  by_cases h:Ut p i=0
  ·rw [if_pos h,if_pos h];rfl
  ·rw [if_neg h,if_neg h];rfl
 ·unfold nJ
  rw [dw,dF (by omega),nN]
theorem rlk1 {y:aP} (hy:y ∈ p.aH):eF (qo N p y) N 0=some (vJ (.inl ()) (fun e=>.inr e) (iT (eLk p y) y.Locks.length 0)):=by
 have hm:=hp.m
 have hl:=hp.l y hy
 refine yN (fun i hi _=>?_) (fun _=>?_) (by omega)
 ·unfold qo eLk
  rw [dw,dT (by omega),ni,IZ hi,bS,PG (by omega) hN,bS,dw,GK,rJ (by omega)]
  show (bif !lZ p y.Locks[i]! then _ else _)=_
  cases hx:lZ p y.Locks[i]! with
  | false=>rfl
  | true =>
   rw [Bool.not_true,nN]
   have hg:idx p.aH (MV (Qa y.Locks[i]!) p.aH)=some (qK p y.Locks[i]!):=by
    unfold qK AX
    rcases SA (g:=Qa y.Locks[i]!) (l:=p.aH) with ⟨_,h,h2⟩ | ⟨h,h2⟩
    ·rw [h2,EL h,jI h]
    ·have:=GK (g:=Qa y.Locks[i]!) (l:=p.aH)
     rw [show p.aH.any (Qa y.Locks[i]!)=true from hx,GL h] at this
     cases this
   rw [hg,bS,lk_eq]
   by_cases h:(qK p y.Locks[i]!).Kind≠5∨y.Kind=5
   ·rw [dT h,if_pos h];rfl
   ·rw [dF h,if_neg h];rfl
 ·unfold qo
  rw [dw,dF (by omega),nN]
theorem rlk2:eF (qm N p) N 0=some (vJ (.inl ()) (fun e=>.inr e) (iT (Ut p) p.aH.length 0)):=by
 have hm:=hp.m
 refine yN (fun i hi _=>?_) (fun _=>?_) (by omega)
 ·unfold qm
  rw [dw,dT (by omega),ni,IZ hi,bS,rlk1 hp hN (FU hi),rJ (by omega),bS]
  show Sum.elim _ _ (vJ _ _ (Ut p i))=_
  unfold vJ
  by_cases h:Ut p i=0
  ·rw [if_pos h,if_pos h];rfl
  ·rw [if_neg h,if_neg h];rfl
 ·unfold qm
  rw [dw,dF (by omega),nN]
theorem MX:rf N p=some (Ii (iT (ePm p) p.aH.length 0) (iT (Ut p) p.aH.length 0)):=by
 unfold rf
 rw [pm3 hp hN,vX,lk2 hp hN,vX]
 unfold Ii
 split
 ·split
  ·rename_i h;rw [h]
  ·rfl
 ·rfl
omit hp hN in
theorem Zp:(((aS .gtr (List.length p.dA:Int) 30)||(aS .gtr (List.length p.dR:Int) 30))||(aS .gtr (List.length p.aH:Int) 20))=decide (30<p.dA.length∨30<p.dR.length∨20<p.aH.length):=by
 rw [Bool.eq_iff_iff];simp only [wB,Bool.or_eq_true,decide_eq_true_eq];omega
omit hp hN in
theorem Zq {g:Int}:((aS .lss g 1)||(aS .gtr g 10000))=decide (g<1∨10000<g):=by
 rw [Bool.eq_iff_iff];simp
theorem Sv:rF N p=some (uU p):=by
  have hx:=hp.x
  unfold rF uU
  rw [Zp,Zq]
  by_cases h:30<p.dA.length∨30<p.dR.length∨20<p.aH.length
  · rw [dT h,if_pos h];rfl
  · rw [dF h,if_neg h,nN]
    by_cases h:p.dK<1∨10000<p.dK
    · rw [dT h,if_pos h];rfl
    · rw [dF h,if_neg h,nN,PK hp hN,bS,qV]
      generalize Ii (iT (Zj p) p.dA.length 0) (iT (PI p) p.dA.length 0)=E
      unfold Ii
      by_cases h:E=0
      · rw [dT h, if_pos h, Bool.not_true, nN, exL hp (by omega), vX, MX hp hN]
        unfold Ii
        split
        · rfl
        · rfl
      · rw [dF h,if_neg h];rfl
theorem Qc:vz N p=some (uU p):=by
  have hx:=hp.x
  unfold vz uU
  rw [Zp,Zq]
  by_cases h:30<p.dA.length∨30<p.dR.length∨20<p.aH.length
  · rw [dT h,if_pos h];rfl
  · rw [dF h,if_neg h,nN]
    by_cases h:p.dK<1∨10000<p.dK
    · rw [dT h,if_pos h];rfl
    · rw [dF h,if_neg h,nN,MW hp hN,bS,qV]
      generalize Ii (iT (Zj p) p.dA.length 0) (iT (PI p) p.dA.length 0)=E
      unfold Ii
      by_cases h:E=0
      · rw [dT h, if_pos h, Bool.not_true, nN, rexL hp (by omega), vX, rpm3 hp hN, vX, rlk2 hp hN, vX]
        split
        · split
          · split
            · rename_i h1 h2 h3;rw [h3]
            · rfl
          · rfl
        · rfl
      · rw [dF h,if_neg h];rfl
end
end Go.KB
namespace Go.KB
set_option linter.unusedVariables false
theorem Zr {N:Nat} (p:GPermitPlan) (hN:1000000≤N):xM N p=some true∨(xM N p=some false∧H8 p∧p.dA.length≤40∧p.dR.length≤40∧p.aH.length≤30∧(∀ y ∈ p.dA,y.Next.length≤40∧y.Name.length≤40)∧∀ y ∈ p.aH,y.Locks.length≤20∧y.Name.length≤40):=by
  unfold xM
  have hb:(((aS .gtr (List.length p.dA:Int) 40)||(aS .gtr (List.length p.dR:Int) 40))||(aS .gtr (List.length p.aH:Int) 30))=decide (40<p.dA.length∨40<p.dR.length∨30<p.aH.length):=by
    rw [Bool.eq_iff_iff];simp only [wB,Bool.or_eq_true,decide_eq_true_eq];omega
  rw [hb]
  by_cases h:40<p.dA.length∨40<p.dR.length∨30<p.aH.length
  · rw [dT h];exact .inl rfl
  rw [dF h,nN]
  have hs:∀ (i:Nat) (hi:i<p.dA.length),qi N p (i:Int)=bif (decide (40<p.dA[i].Next.length)||decide (40<p.dA[i].Name.length)) then some (.inr (.inr true)) else some (.inl ((i+1:Nat):Int)):=by
    intro i hi
    unfold qi
    rw [dw,dT (by omega),ni,jI hi,bS,rJ (by omega)]
    simp only [wB]
    by_cases h1:40<p.dA[i].Next.length
    · rw [dT h1,dT (show (40:Int)<(p.dA[i].Next.length:Int) by omega)];rfl
    · rw [dF h1, dF (show ¬ (40 : Int) < (p.dA[i].Next.length : Int) by omega), Bool.not_false, ni, bS, Bool.false_or, Bool.false_or]
      by_cases h2:40<p.dA[i].Name.length
      · rw [dT h2,dT (show (40:Int)<(p.dA[i].Name.length:Int) by omega)]
      · rw [dF h2,dF (show ¬ (40:Int)<(p.dA[i].Name.length:Int) by omega)]
  have hs2:qi N p (p.dA.length:Int)=some (.inr (.inl ())):=by
    unfold qi
    rw [dw,dF (by omega),nN]
  have hm:∀ (i:Nat) (hi:i<p.aH.length),qj N p (i:Int)=bif (decide (20<p.aH[i].Locks.length)||decide (40<p.aH[i].Name.length)) then some (.inr (.inr true)) else some (.inl ((i+1:Nat):Int)):=by
    intro i hi
    unfold qj
    rw [dw,dT (by omega),ni,jI hi,bS,rJ (by omega)]
    simp only [wB]
    by_cases h1:20<p.aH[i].Locks.length
    · rw [dT h1,dT (show (20:Int)<(p.aH[i].Locks.length:Int) by omega)];rfl
    · rw [dF h1, dF (show ¬ (20 : Int) < (p.aH[i].Locks.length : Int) by omega), Bool.not_false, ni, bS, Bool.false_or, Bool.false_or]
      by_cases h2:40<p.aH[i].Name.length
      · rw [dT h2,dT (show (40:Int)<(p.aH[i].Name.length:Int) by omega)]
      · rw [dF h2,dF (show ¬ (40:Int)<(p.aH[i].Name.length:Int) by omega)]
  have hm2:qj N p (p.aH.length:Int)=some (.inr (.inl ())):=by
    unfold qj
    rw [dw,dF (by omega),nN]
  have e1:=O9 (N:=N) (fun i=>bif (p.dA.drop i).any (fun y=>decide (40<y.Next.length)||decide (40<y.Name.length)) then .inr true else .inl ()) (f:=qi N p) (n:=p.dA.length) (fun i hi=>by
    rw [hs i hi]
    simp only [drop_at hi,List.any_cons]
    cases (decide (40<p.dA[i].Next.length)||decide (40<p.dA[i].Name.length))
    · exact .inl ⟨rfl,by simp⟩
    · exact .inr rfl) (by rw [hs2];simp) (by omega)
  have e2:=O9 (N:=N) (fun i=>bif (p.aH.drop i).any (fun y=>decide (20<y.Locks.length)||decide (40<y.Name.length)) then .inr true else .inl ()) (f:=qj N p) (n:=p.aH.length) (fun i hi=>by
    rw [hm i hi]
    simp only [drop_at hi,List.any_cons]
    cases (decide (20<p.aH[i].Locks.length)||decide (40<p.aH[i].Name.length))
    · exact .inl ⟨rfl,by simp⟩
    · exact .inr rfl) (by rw [hm2];simp) (by omega)
  rw [e1,e2]
  simp only [List.drop_zero,bS]
  cases ha:p.dA.any (fun y=>decide (40<y.Next.length)||decide (40<y.Name.length)) with
  | true=>exact .inl rfl
  | false =>
    cases hc:p.aH.any (fun y=>decide (20<y.Locks.length)||decide (40<y.Name.length)) with
    | true=>exact .inl rfl
    | false =>
      have ha':∀ y ∈ p.dA,y.Next.length≤40∧y.Name.length≤40:=fun y hy=>by
        have:=List.any_eq_false.1 ha y hy
        simp only [Bool.or_eq_true,decide_eq_true_eq,not_or] at this
        omega
      have hc':∀ y ∈ p.aH,y.Locks.length≤20∧y.Name.length≤40:=fun y hy=>by
        have:=List.any_eq_false.1 hc y hy
        simp only [Bool.or_eq_true,decide_eq_true_eq,not_or] at this
        omega
      exact .inr ⟨rfl,⟨by omega,by omega,by omega,fun y hy=>by have:=(ha' y hy).1;omega,fun y hy=>by have:=(hc' y hy).1;omega⟩,by omega,by omega,by omega,ha',hc'⟩
end Go.KB
