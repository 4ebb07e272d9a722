/- Plain laws of chapter 7: loops, names, sets of names. Plain laws of chapter 7: searches, names, places of spaces and permits. Plain laws of chapter 7: CheckPlan. Plain laws of chapter 7: which plans are looked at. No condition. -/
import Derived.Test.YtalkbgomndhkmaaGreatPZa
import Derived.Test.YtalkbgomndhkmaaGreatGPure
namespace Go.KB
set_option linter.unusedVariables false
theorem w64i {n:Int} (h0:-9223372036854775808≤n) (h1:n≤9223372036854775807):IntKind.i64.wrap n=n:=JY h0 h1
theorem dT {p:Prop} [Decidable p] (h:p):decide p=true:=decide_eq_true h
theorem dF {p:Prop} [Decidable p] (h:¬p):decide p=false:=decide_eq_false h
def dZ (e:Nat→Int):Nat→Nat→Int
 | 0,_=>0
 | k+1,i=>if e i=0 then dZ e k (i+1) else e i
theorem x9 {e:Nat→Int}:∀ {k i:Nat},dZ e k i=0→∀ j,i≤j→j<i+k→e j=0:=by
 intro k
 induction k with
 | zero=>intro i _ j h1 h2;omega
 | succ k ih =>
  intro i h j h1 h2
  simp only [dZ] at h
  split at h
  ·rename_i h0
   rcases Nat.eq_or_lt_of_le h1 with rfl | h1
   ·exact h0
   ·exact ih h j h1 (by omega)
  ·rename_i h0;exact absurd h h0
theorem I4 {e e':Nat→Int}:∀ {k i:Nat},(∀ j,i≤j→j<i+k→(∀ m,i≤m→m<j→e m=0)→e j=e' j)→dZ e k i=dZ e' k i:=by
 intro k
 induction k with
 | zero=>intro i _;rfl
 | succ k ih =>
  intro i h
  have h0:=h i (Nat.le_refl _) (by omega) (fun m h1 h2=>by omega)
  simp only [dZ]
  rw [← h0]
  by_cases hz:e i=0
  ·rw [if_pos hz,if_pos hz]
   refine ih fun j h1 h2 h3=>h j (by omega) (by omega) fun m hm1 hm2=>?_
   rcases Nat.eq_or_lt_of_le hm1 with rfl | hm1
   ·exact hz
   ·exact h3 m hm1 hm2
  ·rw [if_neg hz,if_neg hz]
def qI {O:Type} (fin:O) (err:Int→O) (z:Int):O:=if z=0 then fin else err z
theorem DI {e:Nat→Int} {k i:Nat} (h:e i=0):dZ e (k+1) i=dZ e k (i+1):=by simp [dZ,h]
theorem GY {e:Nat→Int} {k i:Nat} (h:e i≠0):dZ e (k+1) i=e i:=by simp [dZ,h]
theorem vz {O:Type} {n N:Nat} {f:Int→Option (Int ⊕ O)} {e:Nat→Int} {fin:O} {err:Int→O} (hf:∀ i:Nat,i<n→(∀ j,j<i→e j=0)→f (i:Int)=if e i=0 then some (.inl ((i+1:Nat):Int)) else some (.inr (err (e i)))) (he:(∀ j,j<n→e j=0)→f (n:Int)=some (.inr fin)) (hN:n<N) :
  dA f N 0=some (qI fin err (dZ e n 0)):=by
 have key:∀ k i,i+k=n→(∀ j,j<i→e j=0)→∀ M,k<M→dA f M (i:Int)=some (qI fin err (dZ e k i)):=by
  intro k
  induction k with
  | zero =>
   intro i hi hz M hM
   obtain ⟨M,rfl⟩:∃ m,M=m+1:=⟨M - 1,by omega⟩
   have:i=n:=by omega
   subst this
   simp only [dA,he hz,dZ];rfl
  | succ k ih =>
   intro i hi hz M hM
   obtain ⟨M,rfl⟩:∃ m,M=m+1:=⟨M - 1,by omega⟩
   simp only [dA,hf i (by omega) hz]
   by_cases h0:e i=0
   ·rw [if_pos h0,DI h0]
    exact ih (i+1) (by omega) (fun j hj=>by
     rcases Nat.lt_succ_iff_lt_or_eq.1 hj with h | rfl
     ·exact hz j h
     ·exact h0) M (by omega)
   ·rw [if_neg h0,GY h0]
    unfold qI
    rw [if_neg h0]
 exact key n 0 (by omega) (fun j hj=>absurd hj (Nat.not_lt_zero _)) N (by omega)
theorem Gq {S O:Type} {n N:Nat} {f:S→Option (S ⊕ O)} {e:Nat→Int} {fin:O} {err:Int→O} (g:Nat→S) (hf:∀ i:Nat,i<n→(∀ j,j<i→e j=0)→f (g i)=if e i=0 then some (.inl (g (i+1))) else some (.inr (err (e i)))) (he:(∀ j,j<n→e j=0)→f (g n)=some (.inr fin)) (hN:n<N) :
  dA f N (g 0)=some (qI fin err (dZ e n 0)):=by
 have key:∀ k i,i+k=n→(∀ j,j<i→e j=0)→∀ M,k<M→dA f M (g i)=some (qI fin err (dZ e k i)):=by
  intro k
  induction k with
  | zero =>
   intro i hi hz M hM
   obtain ⟨M,rfl⟩:∃ m,M=m+1:=⟨M - 1,by omega⟩
   have:i=n:=by omega
   subst this
   simp only [dA,he hz,dZ];rfl
  | succ k ih =>
   intro i hi hz M hM
   obtain ⟨M,rfl⟩:∃ m,M=m+1:=⟨M - 1,by omega⟩
   simp only [dA,hf i (by omega) hz]
   by_cases h0:e i=0
   ·rw [if_pos h0,DI h0]
    exact ih (i+1) (by omega) (fun j hj=>by
     rcases Nat.lt_succ_iff_lt_or_eq.1 hj with h | rfl
     ·exact hz j h
     ·exact h0) M (by omega)
   ·rw [if_neg h0,GY h0]
    unfold qI
    rw [if_neg h0]
 exact key n 0 (by omega) (fun j hj=>absurd hj (Nat.not_lt_zero _)) N (by omega)
theorem AY {α:Type} [Inhabited α] {l:List α} {i:Nat} (h:i<l.length):l[i]! = l[i]:=by simp [h]
theorem BI {α:Type} [Inhabited α] {l:List α} {i:Nat} (h:i<l.length):idx l (i:Int)=some l[i]!:=by rw [jw h,AY h]
theorem JC {α:Type} {b:Bool} {x y:α}:(bif b then some x else some y)=some (bif b then x else y):=by cases b <;> rfl
theorem LD:∀ {k i:Nat},dZ (fun _=>0) k i=0:=by
 intro k
 induction k with
 | zero=>intro i;rfl
 | succ n ih=>intro i;rw [DI (e:=fun _=>0) rfl];exact ih
theorem Gt {α β:Type} [DecidableEq α] (z:β) (x k:α) (y:β):∀ m:List (α×β),gB z (pK m x y) k=if k=x then y else gB z m k
 | []=>by
  by_cases h:k=x
  ·subst h;simp [gB,pK]
  ·simp [gB,pK,h]
 | p :: r=>by
  by_cases hp:x=p.1
  ·subst hp
   by_cases h:k=p.1
   ·subst h;simp [gB,pK]
   ·simp [gB,pK,h]
  ·by_cases h : k = p.1
   ·subst h;simp [gB,pK,hp,Ne.symm hp]
   ·simp [gB,pK,hp,h,Gt z x k y r]
theorem vw (a b:Str):zZ .eql a b=decide (a=b):=by
 unfold zZ
 rw [Bool.eq_iff_iff]
 simp
def dup (nm:Nat→Str):Nat→Str→Bool
 | 0,_=>false
 | i+1,x=>decide (x=nm i)||dup nm i x
def seen (nm:Nat→Str):Nat→List (Str×Bool)
 | 0=>[]
 | i+1=>pK (seen nm i) (nm i) true
theorem FD (nm:Nat→Str) (x:Str):∀ i,gB false (seen nm i) x=dup nm i x
 | 0=>rfl
 | i+1=>by
  simp only [seen,dup,Gt,FD nm x i]
  by_cases h:x=nm i <;> simp [h]
theorem LM (nm:Nat→Str) (x:Str):∀ i,dup nm i x=true↔∃ j,j<i∧nm j=x
 | 0=>by simp [dup]
 | i+1=>by
  simp only [dup,Bool.or_eq_true,decide_eq_true_eq,LM nm x i]
  constructor
  ·rintro (h | ⟨j,h1,h2⟩)
   ·exact ⟨i,by omega,h.symm⟩
   ·exact ⟨j,by omega,h2⟩
  ·rintro ⟨j,h1,h2⟩
   by_cases hj:j=i
   ·subst hj;exact .inl h2.symm
   ·exact .inr ⟨j,by omega,h2⟩
def same (nm:Nat→Str) (x:Str) (j:Nat):Int:=if nm j=x then 5 else 0
def Ud (x0:Str) (s1:Int):Option (Int ⊕ (Unit ⊕ Bool)) :=
 bif (aO .lss s1 (List.length x0:Int)) then ((idx x0 s1).bind fun v2=>bif ((!(((aO .geq ((UInt8.toNat v2:Nat):Int) 97)&&(aO .leq ((UInt8.toNat v2:Nat):Int) 122))||((aO .geq ((UInt8.toNat v2:Nat):Int) 65)&&(aO .leq ((UInt8.toNat v2:Nat):Int) 90))))&&((aO .eql s1 0)||((aO .neq ((UInt8.toNat v2:Nat):Int) 45)&&((aO .lss ((UInt8.toNat v2:Nat):Int) 48)||(aO .gtr ((UInt8.toNat v2:Nat):Int) 57))))) then (some (.inr (Sum.inr false))) else (some (.inl (IntKind.i64.wrap (s1+1))))) else (some (.inr (Sum.inl ())))
def VA (N:Nat) (x0:Str):Option (Bool) :=
 bif ((aO .lss (List.length x0:Int) 1)||(aO .gtr (List.length x0:Int) 12)) then (some false) else ((dA (Ud x0) N 0).bind fun o5=>Sum.elim (fun l7=>some true) (fun r8=>some r8) o5)
theorem Ue {N:Nat} {s:Str} (hN:13≤N):VA N s=some (oL s):=by
  unfold VA
  by_cases hlen:s.length<1∨12<s.length
  · have hc:(aO .lss (s.length:Int) 1||aO .gtr (s.length:Int) 12)=true:=by
      simp;omega
    rw [hc,vC]
    congr 1
    unfold oL
    rcases hlen with h | h
    · have : s = [] := List.eq_nil_of_length_eq_zero (by omega)
      subst this;rfl
    · cases s with
      | nil=>rfl
      | cons c r=>simp at h;simp;intro h';omega
  · have hc:(aO .lss (s.length:Int) 1||aO .gtr (s.length:Int) 12)=false:=by
      rw [Bool.or_eq_false_iff];simp;omega
    rw [hc,sF]
    cases s with
    | nil=>simp at hlen
    | cons c r =>
      have hr:r.length<12:=by simp at hlen;omega
      have hbad:∀ i (hi:i<(c :: r).length),((!(((aO .geq ((UInt8.toNat (c :: r)[i]:Nat):Int) 97)&&(aO .leq ((UInt8.toNat (c :: r)[i]:Nat):Int) 122))||((aO .geq ((UInt8.toNat (c :: r)[i]:Nat):Int) 65)&&(aO .leq ((UInt8.toNat (c :: r)[i]:Nat):Int) 90))))&&((aO .eql (i:Int) 0)||((aO .neq ((UInt8.toNat (c :: r)[i]:Nat):Int) 45)&&((aO .lss ((UInt8.toNat (c :: r)[i]:Nat):Int) 48)||(aO .gtr ((UInt8.toNat (c :: r)[i]:Nat):Int) 57))))) =
          !(if i=0 then vX (c :: r)[i] else rX (c :: r)[i]):=by
        intro i hi
        split
        · rename_i h0;subst h0
          simp only [Ar,Int.natCast_zero,decide_true,Bool.true_or,Bool.and_true]
          rfl
        · rename_i h0
          rw [Ar,show decide ((i:Int)=0)=false by rw [decide_eq_false_iff_not];omega,Bool.false_or]
          unfold rX vX Vf
          simp only [qG,bZ,rG,Au,LK]
          generalize ((UInt8.toNat (c :: r)[i]:Nat):Int)=x
          rw [Bool.eq_iff_iff]
          simp only [Bool.and_eq_true,Bool.or_eq_true,Bool.not_eq_true',Bool.or_eq_false_iff,Bool.and_eq_false_iff,decide_eq_true_eq,decide_eq_false_iff_not]
          omega
      rw [NR (c :: r).length (if oL (c :: r) then .inl () else .inr false) (fun i=>∀ j (h:j<(c :: r).length),j<i→(if j=0 then vX (c :: r)[j] else rX (c :: r)[j])=true) ?_ ?_ (fun j _ h=>absurd h (Nat.not_lt_zero _)) N (by simp;omega)]
      · cases oL (c :: r) <;> rfl
      · intro i hi hp
        unfold Ud
        rw [bZ,show decide ((i:Int)<((c :: r).length:Int))=true by rw [decide_eq_true_eq];omega,vC,jw hi,bS,hbad i hi,qR (show i<9223372036854775807 by simp at hi;omega)]
        cases hg:(if i=0 then vX (c :: r)[i] else rX (c :: r)[i]) with
        | true =>
          refine .inl ⟨rfl,fun j hj hji=>?_⟩
          rcases Nat.lt_succ_iff_lt_or_eq.1 hji with h | rfl
          · exact hp j hj h
          · exact hg
        | false =>
          refine .inr ?_
          have:oL (c :: r)=false:=by
            rw [Bool.eq_false_iff]
            intro h
            simp only [oL,Bool.and_eq_true,decide_eq_true_eq] at h
            obtain ⟨⟨_,h1⟩,h2⟩:=h
            rw [List.all_eq_true] at h2
            cases i with
            | zero=>simp [h1] at hg
            | succ i =>
              simp at hg
              have:=h2 _ (List.getElem_mem (by simpa using hi:i<r.length))
              rw [this] at hg;cases hg
          rw [this];rfl
      · intro hp
        unfold Ud
        rw [bZ,show decide ((((c :: r).length:Nat):Int)<((c :: r).length:Int))=false by simp,sF]
        have:oL (c :: r)=true:=by
          simp only [oL,Bool.and_eq_true,decide_eq_true_eq]
          refine ⟨⟨hr,(by have h:=hp 0 (by simp) (by simp);rw [if_pos rfl] at h;exact h)⟩,?_⟩
          rw [List.all_eq_true]
          intro x hx
          obtain ⟨j,hj,rfl⟩:=List.getElem_of_mem hx
          have:=hp (j+1) (by simp;omega) (by simp;omega)
          simpa using this
        rw [this];rfl
theorem Ko {N:Nat} {s:Str} (hN:13≤N):vV N s=some (oL s):=Ue hN
end Go.KB
namespace Go.KB
set_option linter.unusedVariables false
theorem Gp {O:Type} {n N:Nat} {f:Int→Option (Int ⊕ O)} (R:Nat→O) (hf:∀ i:Nat,i<n→(f (i:Int)=some (.inl ((i+1:Nat):Int))∧R i=R (i+1))∨f (i:Int)=some (.inr (R i))) (he:f (n:Int)=some (.inr (R n))) (hN:n<N):dA f N 0=some (R 0):=by
 have key:∀ k i,i+k=n→∀ M,k<M→dA f M (i:Int)=some (R i):=by
  intro k
  induction k with
  | zero =>
   intro i hi M hM
   obtain ⟨M,rfl⟩:∃ m,M=m+1:=⟨M - 1,by omega⟩
   have:i=n:=by omega
   subst this
   simp only [dA,he]
  | succ k ih =>
   intro i hi M hM
   obtain ⟨M,rfl⟩:∃ m,M=m+1:=⟨M - 1,by omega⟩
   rcases hf i (by omega) with ⟨h1,h2⟩ | h1
   ·simp only [dA,h1];rw [h2];exact ih (i+1) (by omega) M (by omega)
   ·simp only [dA,h1]
 exact key n 0 (by omega) N (by omega)
theorem drop_at {α:Type} {l:List α} {i:Nat} (h:i<l.length):l.drop i=l[i] :: l.drop (i+1):=List.drop_eq_getElem_cons h
theorem Uf {α:Type} {l:List α} {N:Nat} {f:Int→Option (Int ⊕ (Unit ⊕ Bool))} {g:α→Bool} (hf:∀ (i:Nat) (h:i<l.length),f (i:Int)=bif g l[i] then some (.inl ((i+1:Nat):Int)) else some (.inr (.inr false))) (he:f (l.length:Int)=some (.inr (.inl ()))) (hN:l.length<N) :
  ((dA f N 0).bind fun o=>Sum.elim (fun _=>some true) (fun r=>some r) o)=some (l.all g):=by
 rw [Gp (fun i=>bif (l.drop i).all g then .inl () else .inr false) (fun i hi=>?_) (by simp [he]) hN]
 ·simp only [List.drop_zero,bS];cases l.all g <;> rfl
 ·rw [hf i hi]
  simp only [drop_at hi,List.all_cons]
  cases g l[i]
  ·exact .inr rfl
  ·exact .inl ⟨rfl,by simp⟩
theorem TP {α:Type} {l:List α} {N:Nat} {f:Int→Option (Int ⊕ (Unit ⊕ Bool))} {g:α→Bool} (hf:∀ (i:Nat) (h:i<l.length),f (i:Int)=bif g l[i] then some (.inr (.inr true)) else some (.inl ((i+1:Nat):Int))) (he:f (l.length:Int)=some (.inr (.inl ()))) (hN:l.length<N) :
  ((dA f N 0).bind fun o=>Sum.elim (fun _=>some false) (fun r=>some r) o)=some (l.any g):=by
 rw [Gp (fun i=>bif (l.drop i).any g then .inr true else .inl ()) (fun i hi=>?_) (by simp [he]) hN]
 ·simp only [List.drop_zero,bS];cases l.any g <;> rfl
 ·rw [hf i hi]
  simp only [drop_at hi,List.any_cons]
  cases g l[i]
  ·exact .inl ⟨rfl,by simp⟩
  ·exact .inr rfl
def Jl {α:Type} (g:α→Bool) (l:List α):Int:=if l.findIdx g<l.length then (l.findIdx g:Int) else -1
theorem vK {α:Type} {l:List α} {N:Nat} {f:Int→Option (Int ⊕ (Unit ⊕ Int))} {g:α→Bool} (hf:∀ (i:Nat) (h:i<l.length),f (i:Int)=bif g l[i] then some (.inr (.inr (i:Int))) else some (.inl ((i+1:Nat):Int))) (he:f (l.length:Int)=some (.inr (.inl ()))) (hN:l.length<N) :
  ((dA f N 0).bind fun o=>Sum.elim (fun _=>some (-1:Int)) (fun r=>some r) o)=some (Jl g l):=by
 rw [Gp (fun i=>if (l.drop i).findIdx g<(l.drop i).length then .inr (((i+(l.drop i).findIdx g:Nat)):Int) else .inl ()) (fun i hi=>?_) (by simp [he]) hN]
 ·simp only [List.drop_zero,Nat.zero_add,bS,Jl];split <;> rfl
 ·rw [hf i hi]
  simp only [drop_at hi,List.findIdx_cons]
  cases g l[i]
  ·refine .inl ⟨rfl,?_⟩
   simp only [sF,List.length_cons,Nat.add_lt_add_iff_right]
   split
   ·congr 2;omega
   ·rfl
  ·refine .inr ?_
   simp only [vC,List.length_cons,Nat.zero_lt_succ,if_true,Nat.add_zero]
theorem CQ {α:Type} {g:α→Bool} {l:List α} (h:l.findIdx g<l.length):Jl g l=(l.findIdx g:Int):=if_pos h
theorem DY {α:Type} {g:α→Bool} {l:List α} (h:¬ l.findIdx g<l.length):Jl g l = -1:=if_neg h
theorem CP {α:Type} {g:α→Bool} {l:List α}:decide (Jl g l<0) = !l.any g:=by
 have:l.any g=true↔l.findIdx g<l.length:=by
  rw [List.any_eq_true]
  exact List.findIdx_lt_length.symm
 by_cases h:l.findIdx g<l.length
 ·rw [CQ h,this.2 h];simp
 ·rw [DY h,Bool.eq_false_iff.2 (fun x=>h (this.1 x))];rfl
theorem NS {N:Nat} {s:Str} (hN:13≤N):lZ N s=some (oL s):=by
  unfold lZ
  by_cases hlen:s.length<1∨12<s.length
  · have hc : (aO .lss (s.length : Int) 1 || aO .gtr (s.length : Int) 12) = true := by simp; omega
    rw [hc]
    simp only [Bool.not_true,sF,bS,Bool.true_or,vC]
    congr 1
    unfold oL
    rcases hlen with h | h
    · have : s = [] := List.eq_nil_of_length_eq_zero (by omega)
      subst this;rfl
    · cases s with
      | nil=>rfl
      | cons c r=>simp at h;simp;intro h';omega
  · have hc : (aO .lss (s.length : Int) 1 || aO .gtr (s.length : Int) 12) = false := by rw [Bool.or_eq_false_iff]; simp; omega
    rw [hc]
    cases s with
    | nil=>simp at hlen
    | cons c r =>
      have hr:r.length<12:=by simp at hlen;omega
      have hl:∀ x:UInt8,uz N ((UInt8.toNat x:Nat):Int)=some (vX x):=fun x=>rfl
      have h0:idx (c :: r) 0=some c:=by have:=jw (xs:=c :: r) (i:=0) (by simp);simpa using this
      simp only [Bool.not_false,vC,h0,bS,hl,Bool.false_or]
      cases hc:vX c with
      | false=>simp [oL,hc]
      | true =>
        simp only [Bool.not_true,sF]
        have h1:∀ (i:Nat) (hi:i<(c :: r).length),oK N (c :: r) (i:Int)=bif rX (c :: r)[i] then some (.inl ((i+1:Nat):Int)) else some (.inr (.inr false)):=by
          intro i hi
          unfold oK
          rw [bZ,dT (by omega),vC,jw hi,bS,hl,bS,qR (show i<9223372036854775807 by simp at hi;omega)]
          have:((!vX (c :: r)[i]&&aO .neq ((UInt8.toNat (c :: r)[i]:Nat):Int) 45)&&(aO .lss ((UInt8.toNat (c :: r)[i]:Nat):Int) 48||aO .gtr ((UInt8.toNat (c :: r)[i]:Nat):Int) 57)) = !rX (c :: r)[i]:=by
            unfold rX Vf
            cases vX (c :: r)[i]
            · simp only [Bool.not_false,Bool.true_and,Bool.false_or,qG,bZ,rG]
              generalize ((UInt8.toNat (c :: r)[i]:Nat):Int)=x
              rw [Bool.eq_iff_iff]
              simp only [Bool.and_eq_true,Bool.or_eq_true,Bool.not_eq_true',Bool.or_eq_false_iff,Bool.and_eq_false_iff,decide_eq_true_eq,decide_eq_false_iff_not]
              omega
            · simp
          rw [this]
          cases rX (c :: r)[i] <;> rfl
        have h2:oK N (c :: r) ((c :: r).length:Int)=some (.inr (.inl ())):=by
          unfold oK
          rw [bZ,dF (by omega),sF]
        rw [Uf h1 h2 (by simp;omega)]
        simp [oL,hc,rX,hr]
instance:Inhabited bW:=⟨⟨[],false,[]⟩⟩
instance:Inhabited aC:=⟨⟨[],0,[],0,0,[]⟩⟩
instance:Inhabited bG:=⟨⟨0,0,0⟩⟩
def isS (s:Str) (y:bW):Bool:=decide (y.Name=s)
def LW (s:Str) (y:aC):Bool:=decide (y.Name=s)
theorem Rh {N:Nat} {l:List bW} {f:bW→Option Bool} {g:bW→Bool} (hf:∀ y,f y=some (g y)) (hl:l.length<1000000) (hN:1000000≤N):iK N l f=some (Jl g l):=by
 unfold iK
 refine vK (fun i hi=>?_) ?_ (by omega)
 ·unfold gW
  rw [bZ,dT (by omega),vC,jw hi,bS,hf,bS,qR (by omega)]
 ·unfold gW
  rw [bZ,dF (by omega),sF]
theorem J8 {N:Nat} {l:List aC} {f:aC→Option Bool} {g:aC→Bool} (hf:∀ y,f y=some (g y)) (hl:l.length<1000000) (hN:1000000≤N):fG N l f=some (Jl g l):=by
 unfold fG
 refine vK (fun i hi=>?_) ?_ (by omega)
 ·unfold gG
  rw [bZ,dT (by omega),vC,jw hi,bS,hf,bS,qR (by omega)]
 ·unfold gG
  rw [bZ,dF (by omega),sF]
theorem Gv {N:Nat} {p:GPermitPlan} {s:Str} (hl:p.bU.length<1000000) (hN:1000000≤N):rU N p s=some (Jl (isS s) p.bU):=by
 unfold rU
 refine vK (fun i hi=>?_) ?_ (by omega)
 ·unfold tH
  rw [bZ,dT (by omega),vC,jw hi,bS,vw,qR (by omega)];rfl
 ·unfold tH
  rw [bZ,dF (by omega),sF]
theorem Jg {N:Nat} {p:GPermitPlan} {s:Str} (hl:p.ay.length<1000000) (hN:1000000≤N):tK N p s=some (Jl (LW s) p.ay):=by
 unfold tK
 refine vK (fun i hi=>?_) ?_ (by omega)
 ·unfold rf
  rw [bZ,dT (by omega),vC,jw hi,bS,vw,qR (by omega)];rfl
 ·unfold rf
  rw [bZ,dF (by omega),sF]
def zU {α:Type} (z:α) (g:α→Bool) (l:List α):α×Bool:=match l.find? g with | some y=>(y,true) | none=>(z,false)
theorem LP {α:Type} {g:α→Bool}:∀ {l:List α},(l.findIdx g<l.length∧∃ h:l.findIdx g<l.length,l.find? g=some l[l.findIdx g])∨(¬ l.findIdx g<l.length∧l.find? g=none):=by
 intro l
 by_cases h:l.findIdx g<l.length
 ·refine .inl ⟨h,h,?_⟩
  exact (List.find?_eq_getElem?_findIdx ..).trans (List.getElem?_eq_getElem h)
 ·refine .inr ⟨h,?_⟩
  rw [List.find?_eq_getElem?_findIdx,List.getElem?_eq_none (by omega)]
theorem EH {N:Nat} {p:GPermitPlan} {s:Str} (hl:p.bU.length<1000000) (hN:1000000≤N):iD N p s=some (zU ⟨[],false,[]⟩ (isS s) p.bU):=by
 unfold iD
 rw [Rh (g:=isS s) (fun y=>by unfold qy;rw [vw];rfl) hl hN,bS,bZ]
 unfold zU
 rcases LP (g:=isS s) (l:=p.bU) with ⟨_,h,h2⟩ | ⟨h,h2⟩
 ·rw [h2,CQ h,dF (by omega),sF,jw h];rfl
 ·rw [h2,DY h];rfl
theorem GX {N:Nat} {p:GPermitPlan} {s:Str} (hl:p.ay.length<1000000) (hN:1000000≤N):kN N p s=some (zU ⟨[],0,[],0,0,[]⟩ (LW s) p.ay):=by
 unfold kN
 rw [J8 (g:=LW s) (fun y=>by unfold pR;rw [vw];rfl) hl hN,bS,bZ]
 unfold zU
 rcases LP (g:=LW s) (l:=p.ay) with ⟨_,h,h2⟩ | ⟨h,h2⟩
 ·rw [h2,CQ h,dF (by omega),sF,jw h];rfl
 ·rw [h2,DY h];rfl
theorem Gs {α:Type} {z:α} {g:α→Bool} {l:List α}:(zU z g l).2=l.any g:=by
 unfold zU
 cases h:l.find? g with
 | none=>simp only [];rw [eq_comm,Bool.eq_false_iff];intro hx;rw [List.any_eq_true] at hx;obtain ⟨x,hx,hg⟩:=hx;exact absurd hg (by simpa using List.find?_eq_none.1 h x hx)
 | some y=>simp only [];rw [eq_comm,List.any_eq_true];exact ⟨y,List.mem_of_find?_eq_some h,List.find?_some h⟩
end Go.KB
namespace Go.KB
set_option linter.unusedVariables false
def DF (a b:Int):Int:=if a=0 then b else a
def xU (k:Int):Bool:=decide (0≤k)&&decide (k≤5)
def FI (p:GPermitPlan) (i:Nat):Str:=p.bU[i]!.Name
def Hw (p:GPermitPlan) (i:Nat):Str:=p.ay[i]!.Name
def Gu (p:GPermitPlan) (s:Str):Bool:=p.bU.any (isS s)
def zn (p:GPermitPlan) (s:Str):Bool:=p.ay.any (LW s)
def LJ (p:GPermitPlan) (s:Str):aC:=(zU ⟨[],0,[],0,0,[]⟩ (LW s) p.ay).1
def Ve (p:GPermitPlan) (s:Str):bW:=(zU ⟨[],false,[]⟩ (isS s) p.bU).1
def Ub (p:GPermitPlan) (i:Nat):Int:=if oL (FI p i)=false then 4 else if dup (FI p) i (FI p i)=true then 5 else if 30<p.bU[i]!.Next.length then 8 else 0
def eNx (p:GPermitPlan) (y:bW) (j:Nat):Int:=if Gu p y.Next[j]! = false then 6 else if y.Next[j]! = y.Name then 3 else 0
def Jh (p:GPermitPlan) (i:Nat):Int:=dZ (eNx p p.bU[i]!) p.bU[i]!.Next.length 0
def eEx (p:GPermitPlan) (i:Nat):Int:=if xU p.cZ[i]!.A=false∨xU p.cZ[i]!.B=false∨p.cZ[i]!.Reach<0∨2<p.cZ[i]!.Reach then 2 else 0
def Vz (p:GPermitPlan) (i:Nat):Int:=if oL (Hw p i)=false then 4 else if dup (Hw p) i (Hw p i)=true then 5 else
 if xU p.ay[i]!.Kind=false∨p.ay[i]!.From<0∨p.ay[i]!.To≤p.ay[i]!.From∨1000000<p.ay[i]!.To then 2 else if Gu p p.ay[i]!.Space=false then 6 else if 10<p.ay[i]!.Locks.length then 8 else 0
def eLk (p:GPermitPlan) (y:aC) (j:Nat):Int:=if zn p y.Locks[j]! = false then 6 else if (LJ p y.Locks[j]!).Kind≠5∨y.Kind=5 then 3 else 0
def NT (p:GPermitPlan) (i:Nat):Int:=dZ (eLk p p.ay[i]!) p.ay[i]!.Locks.length 0
def lC (p:GPermitPlan):Int:=if 30<p.bU.length∨30<p.cZ.length∨20<p.ay.length then 8 else if p.dU<1∨10000<p.dU then 2 else
 DF (DF (dZ (Ub p) p.bU.length 0) (dZ (Jh p) p.bU.length 0)) (DF (dZ (eEx p) p.cZ.length 0) (DF (dZ (Vz p) p.ay.length 0) (dZ (NT p) p.ay.length 0)))
structure LV (p:GPermitPlan):Prop where
 s:p.bU.length<1000
 x:p.cZ.length<1000
 m:p.ay.length<1000
 n:∀ y ∈ p.bU,y.Next.length<1000
 l:∀ y ∈ p.ay,y.Locks.length<1000
theorem zT {α:Type} [Inhabited α] {l:List α} {i:Nat} (h:i<l.length):l[i]! ∈ l:=by rw [AY h];exact List.getElem_mem h
theorem rY {A:Type} {fin:A} {E:Int} {K:A→Option Int}:((some (qI (Sum.inl fin) (fun e=>Sum.inr e) E):Option (A ⊕ Int)).bind fun o=>Sum.elim (fun l=>K l) (fun r=>some r) o)=if E=0 then K fin else some E:=by
 unfold qI
 by_cases h:E=0
 ·rw [if_pos h,if_pos h];rfl
 ·rw [if_neg h,if_neg h];rfl
theorem Pg {α:Type} [Inhabited α] {nm:α→Str} {x:Str} {l:List α} {i:Nat} (hi:i≤l.length):dup (fun j=>nm l[j]!) i x=(decide (0≤Jl (fun y=>decide (nm y=x)) l)&&decide (Jl (fun y=>decide (nm y=x)) l<(i:Int))):=by
 rw [Bool.eq_iff_iff,LM,Bool.and_eq_true,decide_eq_true_eq,decide_eq_true_eq]
 constructor
 ·rintro ⟨j,hj,hx⟩
  have hjl:j<l.length:=by omega
  rw [AY hjl] at hx
  have hle:l.findIdx (fun y=>decide (nm y=x))≤j:=by
   rcases Nat.lt_or_ge j (l.findIdx (fun y=>decide (nm y=x))) with h | h
   ·exact absurd (List.not_of_lt_findIdx h) (by simp [hx])
   ·exact h
  rw [CQ (by omega)]
  omega
 ·rintro ⟨h1,h2⟩
  by_cases h:l.findIdx (fun y=>decide (nm y=x))<l.length
  ·rw [CQ h] at h2
   refine ⟨l.findIdx (fun y=>decide (nm y=x)),by omega,?_⟩
   show nm l[l.findIdx (fun y=>decide (nm y=x))]! = x
   rw [AY h]
   have:=List.findIdx_getElem (xs:=l) (p:=fun y=>decide (nm y=x)) (w:=h)
   simpa using this
  ·rw [DY h] at h1;omega
theorem Vg {α:Type} [Inhabited α] {nm:α→Str} {x:Str} {l:List α}:dup (fun j=>nm l[j]!) l.length x=l.any (fun y=>decide (nm y=x)):=by
 rw [Pg (Nat.le_refl _)]
 have:=CP (g:=fun y=>decide (nm y=x)) (l:=l)
 by_cases h:l.findIdx (fun y=>decide (nm y=x))<l.length
 ·rw [CQ h] at this ⊢
  rw [dF (by omega)] at this
  rw [dT (by omega),dT (by omega)]
  cases hx:l.any (fun y=>decide (nm y=x)) with
  | true=>rfl
  | false=>rw [hx] at this;cases this
 ·rw [DY h] at this ⊢
  cases hx:l.any (fun y=>decide (nm y=x)) with
  | false=>rfl
  | true=>rw [hx] at this;cases this
theorem Qe {N:Nat} {k:Int}:uM N k=some (xU k):=rfl
theorem Ug {N:Nat} {k:Int}:vG N k=some (xU k):=rfl
section
variable {N:Nat} {p:GPermitPlan} (hp:LV p) (hN:1000000≤N)
include hp hN
theorem cs3:dA (kP N p) N (([]:List (Str×Bool)),0)=some (qI (.inl (seen (FI p) p.bU.length)) (fun e=>.inr e) (dZ (Ub p) p.bU.length 0)):=by
 have hs:=hp.s
 refine Gq (fun i=>(seen (FI p) i,(i:Int))) (fun i hi _=>?_) (fun _=>?_) (by omega)
 ·unfold kP Ub
  simp only []
  rw [bZ,dT (by omega),vC,BI hi,bS,NS (by omega),bS,FD,qR (by omega),rG]
  show (bif !oL (FI p i) then _ else bif dup (FI p) i (FI p i) then _ else _)=_
  cases oL (FI p i) with
  | false=>rfl
  | true =>
   cases dup (FI p) i (FI p i) with
   | true=>rfl
   | false =>
    by_cases h:30<p.bU[i]!.Next.length
    ·rw [dT (show (30:Int)<(p.bU[i]!.Next.length:Int) by omega),if_pos h];rfl
    ·rw [dF (show ¬ (30:Int)<(p.bU[i]!.Next.length:Int) by omega),if_neg h];rfl
 ·unfold kP
  simp only []
  rw [bZ,dF (by omega),sF]
theorem cs1 {y:bW} (hy:y ∈ p.bU):dA (kR N (seen (FI p) p.bU.length) y) N 0=some (qI (.inl ()) (fun e=>.inr e) (dZ (eNx p y) y.Next.length 0)):=by
 have hl:=hp.n y hy
 refine vz (fun i hi _=>?_) (fun _=>?_) (by omega)
 ·unfold kR eNx
  rw [bZ,dT (by omega),vC,BI hi,bS,FD,show dup (FI p) p.bU.length y.Next[i]! = Gu p y.Next[i]! from Vg,qR (by omega),vw]
  cases Gu p y.Next[i]! with
  | false=>rfl
  | true =>
   by_cases h:y.Next[i]! = y.Name
   ·rw [dT h,if_pos h];rfl
   ·rw [dF h,if_neg h];rfl
 ·unfold kR
  rw [bZ,dF (by omega),sF]
theorem cs2:dA (kQ N p (seen (FI p) p.bU.length)) N 0=some (qI (.inl ()) (fun e=>.inr e) (dZ (Jh p) p.bU.length 0)):=by
 have hs:=hp.s
 refine vz (fun i hi _=>?_) (fun _=>?_) (by omega)
 ·unfold kQ
  rw [bZ,dT (by omega),vC,BI hi,bS,cs1 hp hN (zT hi),qR (by omega),bS]
  show Sum.elim _ _ (qI _ _ (Jh p i))=_
  unfold qI
  by_cases h:Jh p i=0
  ·rw [if_pos h,if_pos h];rfl
  ·rw [if_neg h,if_neg h];rfl
 ·unfold kQ
  rw [bZ,dF (by omega),sF]
theorem Ji:oP N p=some (DF (dZ (Ub p) p.bU.length 0) (dZ (Jh p) p.bU.length 0)):=by
 unfold oP
 rw [cs3 hp hN,rY,cs2 hp hN,rY]
 unfold DF
 split
 ·split
  ·rename_i h;rw [h]
  ·rfl
 ·rfl
theorem rcs3:dA (kY N p) N 0=some (qI (.inl ()) (fun e=>.inr e) (dZ (Ub p) p.bU.length 0)):=by
 have hs:=hp.s
 refine vz (fun i hi _=>?_) (fun _=>?_) (by omega)
 ·unfold kY Ub
  rw [bZ,dT (by omega),vC,BI hi,bS,Ko (by omega),bS]
  have hd:tJ N p (i:Int) (FI p i)=some (dup (FI p) i (FI p i)):=by
   unfold tJ
   rw [Gv (by omega) hN,bS,Au,bZ]
   exact congrArg some (Pg (nm:=bW.Name) (x:=FI p i) (l:=p.bU) (Nat.le_of_lt hi)).symm
  rw [bS,show tJ N p (i:Int) p.bU[i]!.Name=_ from hd,bS,bS,qR (by omega),rG]
  show (bif !oL (FI p i) then _ else bif dup (FI p) i (FI p i) then _ else _)=_
  cases oL (FI p i) with
  | false=>rfl
  | true =>
   cases dup (FI p) i (FI p i) with
   | true=>rfl
   | false =>
    by_cases h:30<p.bU[i]!.Next.length
    ·rw [dT (show (30:Int)<(p.bU[i]!.Next.length:Int) by omega),if_pos h];rfl
    ·rw [dF (show ¬ (30:Int)<(p.bU[i]!.Next.length:Int) by omega),if_neg h];rfl
 ·unfold kY
  rw [bZ,dF (by omega),sF]
theorem rcs1 {i:Nat} (hi:i<p.bU.length):dA (lg N p (i:Int)) N 0=some (qI (.inl ()) (fun e=>.inr e) (Jh p i)):=by
 have hl:=hp.n _ (zT hi)
 have hs:=hp.s
 refine vz (fun j hj _=>?_) (fun _=>?_) (by omega)
 ·unfold lg eNx
  rw [BI hi,bS,bZ,dT (by omega),vC,bS,BI hj,bS,Gv (by omega) hN,bS,bZ,CP,bS,BI hj,bS,bS,qR (by omega),vw]
  show (bif !Gu p _ then _ else _)=_
  cases Gu p p.bU[i]!.Next[j]! with
  | false=>rfl
  | true =>
   by_cases h:p.bU[i]!.Next[j]! = p.bU[i]!.Name
   ·rw [dT h,if_pos h];rfl
   ·rw [dF h,if_neg h];rfl
 ·unfold lg
  rw [BI hi,bS,bZ,dF (by omega),sF]
theorem rcs2:dA (kZ N p) N 0=some (qI (.inl ()) (fun e=>.inr e) (dZ (Jh p) p.bU.length 0)):=by
 have hs:=hp.s
 refine vz (fun i hi _=>?_) (fun _=>?_) (by omega)
 ·unfold kZ
  rw [bZ,dT (by omega),vC,rcs1 hp hN hi,qR (by omega),bS]
  unfold qI
  by_cases h:Jh p i=0
  ·rw [if_pos h,if_pos h];rfl
  ·rw [if_neg h,if_neg h];rfl
 ·unfold kZ
  rw [bZ,dF (by omega),sF]
theorem G8:pO N p=some (DF (dZ (Ub p) p.bU.length 0) (dZ (Jh p) p.bU.length 0)):=by
 unfold pO
 rw [rcs3 hp hN,rY,rcs2 hp hN,rY]
 unfold DF
 split
 ·split
  ·rename_i h;rw [h]
  ·rfl
 ·rfl
omit hp hN in
theorem ex_eq {a b:Bool} {r:Int}:((((!a)||(!(bif !(!a) then b else false)))||(aO .lss r 0))||(aO .gtr r 2))=decide (a=false∨b=false∨r<0∨2<r):=by
 rw [Bool.eq_iff_iff,bZ,rG]
 cases a <;> cases b <;> simp
omit hN in
theorem exL (hN2:p.cZ.length<N):dA (lT N p) N 0=some (qI (.inl ()) (fun e=>.inr e) (dZ (eEx p) p.cZ.length 0)):=by
 have hs:=hp.x
 refine vz (fun i hi _=>?_) (fun _=>?_) hN2
 ·unfold lT eEx
  simp only [Qe]
  rw [bZ,dT (by omega),vC,BI hi,bS,bS,JC,bS,qR (by omega),ex_eq]
  by_cases h:xU p.cZ[i]!.A=false∨xU p.cZ[i]!.B=false∨p.cZ[i]!.Reach<0∨2<p.cZ[i]!.Reach
  ·rw [dT h,if_pos h];rfl
  ·rw [dF h,if_neg h];rfl
 ·unfold lT
  rw [bZ,dF (by omega),sF]
omit hN in
theorem rexL (hN2:p.cZ.length<N):dA (ru N p) N 0=some (qI (.inl ()) (fun e=>.inr e) (dZ (eEx p) p.cZ.length 0)):=exL hp hN2
omit hp hN in
theorem VB {a:Bool} {x y:Int}:((((!a)||(aO .lss x 0))||(aO .geq x y))||(aO .gtr y 1000000))=decide (a=false∨x<0∨y≤x∨1000000<y):=by
 rw [Bool.eq_iff_iff,bZ,rG,Au]
 cases a <;> simp [or_assoc]
theorem pm3:dA (kG N p) N (([]:List (Str×Bool)),0)=some (qI (.inl ()) (fun e=>.inr e) (dZ (Vz p) p.ay.length 0)):=by
 have hs:=hp.s
 have hm:=hp.m
 refine Gq (fun i=>(seen (Hw p) i,(i:Int))) (fun i hi _=>?_) (fun _=>?_) (by omega)
 ·unfold kG Vz
  simp only []
  rw [bZ,dT (by omega),vC,BI hi,bS,EH (by omega) hN,bS,NS (by omega),bS,FD,qR (by omega),Qe,bS,VB,Gs,rG]
  show (bif !oL (Hw p i) then _ else bif dup (Hw p) i (Hw p i) then _ else bif _ then _ else bif !Gu p p.ay[i]!.Space then _ else _)=_
  cases oL (Hw p i) with
  | false=>rfl
  | true =>
   cases dup (Hw p) i (Hw p i) with
   | true=>rfl
   | false =>
    by_cases h:xU p.ay[i]!.Kind=false∨p.ay[i]!.From<0∨p.ay[i]!.To≤p.ay[i]!.From∨1000000<p.ay[i]!.To
    ·rw [dT h,if_pos h];rfl
    ·rw [dF h,if_neg h]
     cases Gu p p.ay[i]!.Space with
     | false=>rfl
     | true =>
      by_cases h:10<p.ay[i]!.Locks.length
      ·rw [dT (show (10:Int)<(p.ay[i]!.Locks.length:Int) by omega),if_pos h];rfl
      ·rw [dF (show ¬ (10:Int)<(p.ay[i]!.Locks.length:Int) by omega),if_neg h];rfl
 ·unfold kG
  simp only []
  rw [bZ,dF (by omega),sF]
theorem rpm3:dA (mX N p) N 0=some (qI (.inl ()) (fun e=>.inr e) (dZ (Vz p) p.ay.length 0)):=by
 have hs:=hp.s
 have hm:=hp.m
 refine vz (fun i hi _=>?_) (fun _=>?_) (by omega)
 ·unfold mX Vz
  have hd:aO .lss (Jl (LW p.ay[i]!.Name) p.ay) (i:Int)=dup (Hw p) i (Hw p i):=by
   have h1:=Pg (nm:=aC.Name) (x:=Hw p i) (l:=p.ay) (Nat.le_of_lt hi)
   have h2:(0:Int)≤Jl (LW p.ay[i]!.Name) p.ay:=by
    have:=CP (g:=LW p.ay[i]!.Name) (l:=p.ay)
    have h3:p.ay.any (LW p.ay[i]!.Name)=true:=List.any_eq_true.2 ⟨_,zT hi,by simp [LW]⟩
    rw [h3] at this
    simpa using this
   rw [bZ]
   show _=dup (fun j=>p.ay[j]!.Name) i (Hw p i)
   rw [h1]
   show _=(decide ((0:Int)≤Jl (LW p.ay[i]!.Name) p.ay)&&decide (Jl (LW p.ay[i]!.Name) p.ay<(i:Int)))
   rw [dT h2,Bool.true_and]
  rw [bZ,dT (by omega),vC,BI hi,bS,Ko (by omega),bS,Jg (by omega) hN,bS,hd,Ug,bS,VB,Gv (by omega) hN,bS,bZ,CP,rG,qR (by omega)]
  show (bif !oL (Hw p i) then _ else bif dup (Hw p) i (Hw p i) then _ else bif _ then _ else bif !Gu p p.ay[i]!.Space then _ else _)=_
  cases oL (Hw p i) with
  | false=>rfl
  | true =>
   cases dup (Hw p) i (Hw p i) with
   | true=>rfl
   | false =>
    by_cases h:xU p.ay[i]!.Kind=false∨p.ay[i]!.From<0∨p.ay[i]!.To≤p.ay[i]!.From∨1000000<p.ay[i]!.To
    ·rw [dT h,if_pos h];rfl
    ·rw [dF h,if_neg h]
     cases Gu p p.ay[i]!.Space with
     | false=>rfl
     | true =>
      by_cases h:10<p.ay[i]!.Locks.length
      ·rw [dT (show (10:Int)<(p.ay[i]!.Locks.length:Int) by omega),if_pos h];rfl
      ·rw [dF (show ¬ (10:Int)<(p.ay[i]!.Locks.length:Int) by omega),if_neg h];rfl
 ·unfold mX
  rw [bZ,dF (by omega),sF]
omit hp hN in
theorem VD {a b:Int}:((aO .neq a 5)||(aO .eql b 5))=decide (a≠5∨b=5):=by
 rw [Bool.eq_iff_iff,qG,Ar];simp
theorem lk1 {y:aC} (hy:y ∈ p.ay):dA (kJ N p y) N 0=some (qI (.inl ()) (fun e=>.inr e) (dZ (eLk p y) y.Locks.length 0)):=by
 have hm:=hp.m
 have hl:=hp.l y hy
 refine vz (fun i hi _=>?_) (fun _=>?_) (by omega)
 ·unfold kJ eLk
  rw [bZ,dT (by omega),vC,BI hi,bS,GX (by omega) hN,bS,Gs,VD,qR (by omega)]
  show (bif !zn p y.Locks[i]! then _ else bif decide ((LJ p y.Locks[i]!).Kind≠5∨y.Kind=5) then _ else _)=_
  cases zn p y.Locks[i]! with
  | false=>rfl
  | true =>
   by_cases h:(LJ p y.Locks[i]!).Kind≠5∨y.Kind=5
   ·rw [dT h,if_pos h];rfl
   ·rw [dF h,if_neg h];rfl
 ·unfold kJ
  rw [bZ,dF (by omega),sF]
theorem lk2:dA (kH N p) N 0=some (qI (.inl ()) (fun e=>.inr e) (dZ (NT p) p.ay.length 0)):=by
 have hm:=hp.m
 refine vz (fun i hi _=>?_) (fun _=>?_) (by omega)
 ·unfold kH
  rw [bZ,dT (by omega),vC,BI hi,bS,lk1 hp hN (zT hi),qR (by omega),bS]
  show Sum.elim _ _ (qI _ _ (NT p i))=_
  unfold qI
  by_cases h:NT p i=0
  ·rw [if_pos h,if_pos h];rfl
  ·rw [if_neg h,if_neg h];rfl
 ·unfold kH
  rw [bZ,dF (by omega),sF]
theorem rlk1 {y:aC} (hy:y ∈ p.ay):dA (mZ N p y) N 0=some (qI (.inl ()) (fun e=>.inr e) (dZ (eLk p y) y.Locks.length 0)):=by
 have hm:=hp.m
 have hl:=hp.l y hy
 refine vz (fun i hi _=>?_) (fun _=>?_) (by omega)
 ·unfold mZ eLk
  rw [bZ,dT (by omega),vC,BI hi,bS,Jg (by omega) hN,bS,bZ,CP,qR (by omega)]
  show (bif !zn p y.Locks[i]! then _ else _)=_
  cases hx:zn p y.Locks[i]! with
  | false=>rfl
  | true =>
   rw [Bool.not_true,sF]
   have hg:idx p.ay (Jl (LW y.Locks[i]!) p.ay)=some (LJ p y.Locks[i]!):=by
    unfold LJ zU
    rcases LP (g:=LW y.Locks[i]!) (l:=p.ay) with ⟨_,h,h2⟩ | ⟨h,h2⟩
    ·rw [h2,CQ h,jw h]
    ·have:=CP (g:=LW y.Locks[i]!) (l:=p.ay)
     rw [show p.ay.any (LW y.Locks[i]!)=true from hx,DY h] at this
     cases this
   rw [hg,bS,VD]
   by_cases h:(LJ p y.Locks[i]!).Kind≠5∨y.Kind=5
   ·rw [dT h,if_pos h];rfl
   ·rw [dF h,if_neg h];rfl
 ·unfold mZ
  rw [bZ,dF (by omega),sF]
theorem rlk2:dA (mY N p) N 0=some (qI (.inl ()) (fun e=>.inr e) (dZ (NT p) p.ay.length 0)):=by
 have hm:=hp.m
 refine vz (fun i hi _=>?_) (fun _=>?_) (by omega)
 ·unfold mY
  rw [bZ,dT (by omega),vC,BI hi,bS,rlk1 hp hN (zT hi),qR (by omega),bS]
  show Sum.elim _ _ (qI _ _ (NT p i))=_
  unfold qI
  by_cases h:NT p i=0
  ·rw [if_pos h,if_pos h];rfl
  ·rw [if_neg h,if_neg h];rfl
 ·unfold mY
  rw [bZ,dF (by omega),sF]
theorem G9:og N p=some (DF (dZ (Vz p) p.ay.length 0) (dZ (NT p) p.ay.length 0)):=by
 unfold og
 rw [pm3 hp hN,rY,lk2 hp hN,rY]
 unfold DF
 split
 ·split
  ·rename_i h;rw [h]
  ·rfl
 ·rfl
omit hp hN in
theorem Uh:(((aO .gtr (List.length p.bU:Int) 30)||(aO .gtr (List.length p.cZ:Int) 30))||(aO .gtr (List.length p.ay:Int) 20))=decide (30<p.bU.length∨30<p.cZ.length∨20<p.ay.length):=by
 rw [Bool.eq_iff_iff];simp only [rG,Bool.or_eq_true,decide_eq_true_eq];omega
omit hp hN in
theorem Ui {g:Int}:((aO .lss g 1)||(aO .gtr g 10000))=decide (g<1∨10000<g):=by
 rw [Bool.eq_iff_iff];simp
theorem FC:kU N p=some (lC p):=by
  have hx:=hp.x
  unfold kU lC
  rw [Uh,Ui]
  by_cases h:30<p.bU.length∨30<p.cZ.length∨20<p.ay.length
  · rw [dT h,if_pos h];rfl
  · rw [dF h,if_neg h,sF]
    by_cases h:p.dU<1∨10000<p.dU
    · rw [dT h,if_pos h];rfl
    · rw [dF h,if_neg h,sF,Ji hp hN,bS,qG]
      generalize DF (dZ (Ub p) p.bU.length 0) (dZ (Jh p) p.bU.length 0)=E
      unfold DF
      by_cases h:E=0
      · rw [dT h, if_pos h, Bool.not_true, sF, exL hp (by omega), rY, G9 hp hN]
        unfold DF
        split
        · rfl
        · rfl
      · rw [dF h,if_neg h];rfl
theorem JD:rq N p=some (lC p):=by
  have hx:=hp.x
  unfold rq lC
  rw [Uh,Ui]
  by_cases h:30<p.bU.length∨30<p.cZ.length∨20<p.ay.length
  · rw [dT h,if_pos h];rfl
  · rw [dF h,if_neg h,sF]
    by_cases h:p.dU<1∨10000<p.dU
    · rw [dT h,if_pos h];rfl
    · rw [dF h,if_neg h,sF,G8 hp hN,bS,qG]
      generalize DF (dZ (Ub p) p.bU.length 0) (dZ (Jh p) p.bU.length 0)=E
      unfold DF
      by_cases h:E=0
      · rw [dT h, if_pos h, Bool.not_true, sF, rexL hp (by omega), rY, rpm3 hp hN, rY, rlk2 hp hN, rY]
        split
        · split
          · split
            · rename_i h1 h2 h3;rw [h3]
            · rfl
          · rfl
        · rfl
      · rw [dF h,if_neg h];rfl
end
end Go.KB
namespace Go.KB
set_option linter.unusedVariables false
theorem Uj {N:Nat} (p:GPermitPlan) (hN:1000000≤N):uK N p=some true∨(uK N p=some false∧LV p∧p.bU.length≤40∧p.cZ.length≤40∧p.ay.length≤30∧(∀ y ∈ p.bU,y.Next.length≤40∧y.Name.length≤40)∧∀ y ∈ p.ay,y.Locks.length≤20∧y.Name.length≤40):=by
  unfold uK
  have hb:(((aO .gtr (List.length p.bU:Int) 40)||(aO .gtr (List.length p.cZ:Int) 40))||(aO .gtr (List.length p.ay:Int) 30))=decide (40<p.bU.length∨40<p.cZ.length∨30<p.ay.length):=by
    rw [Bool.eq_iff_iff];simp only [rG,Bool.or_eq_true,decide_eq_true_eq];omega
  rw [hb]
  by_cases h:40<p.bU.length∨40<p.cZ.length∨30<p.ay.length
  · rw [dT h];exact .inl rfl
  rw [dF h,sF]
  have hs:∀ (i:Nat) (hi:i<p.bU.length),mV N p (i:Int)=bif (decide (40<p.bU[i].Next.length)||decide (40<p.bU[i].Name.length)) then some (.inr (.inr true)) else some (.inl ((i+1:Nat):Int)):=by
    intro i hi
    unfold mV
    rw [bZ,dT (by omega),vC,jw hi,bS,qR (by omega)]
    simp only [rG]
    by_cases h1:40<p.bU[i].Next.length
    · rw [dT h1,dT (show (40:Int)<(p.bU[i].Next.length:Int) by omega)];rfl
    · rw [dF h1, dF (show ¬ (40 : Int) < (p.bU[i].Next.length : Int) by omega), Bool.not_false, vC, bS, Bool.false_or, Bool.false_or]
      by_cases h2:40<p.bU[i].Name.length
      · rw [dT h2,dT (show (40:Int)<(p.bU[i].Name.length:Int) by omega)]
      · rw [dF h2,dF (show ¬ (40:Int)<(p.bU[i].Name.length:Int) by omega)]
  have hs2:mV N p (p.bU.length:Int)=some (.inr (.inl ())):=by
    unfold mV
    rw [bZ,dF (by omega),sF]
  have hm:∀ (i:Nat) (hi:i<p.ay.length),mW N p (i:Int)=bif (decide (20<p.ay[i].Locks.length)||decide (40<p.ay[i].Name.length)) then some (.inr (.inr true)) else some (.inl ((i+1:Nat):Int)):=by
    intro i hi
    unfold mW
    rw [bZ,dT (by omega),vC,jw hi,bS,qR (by omega)]
    simp only [rG]
    by_cases h1:20<p.ay[i].Locks.length
    · rw [dT h1,dT (show (20:Int)<(p.ay[i].Locks.length:Int) by omega)];rfl
    · rw [dF h1, dF (show ¬ (20 : Int) < (p.ay[i].Locks.length : Int) by omega), Bool.not_false, vC, bS, Bool.false_or, Bool.false_or]
      by_cases h2:40<p.ay[i].Name.length
      · rw [dT h2,dT (show (40:Int)<(p.ay[i].Name.length:Int) by omega)]
      · rw [dF h2,dF (show ¬ (40:Int)<(p.ay[i].Name.length:Int) by omega)]
  have hm2:mW N p (p.ay.length:Int)=some (.inr (.inl ())):=by
    unfold mW
    rw [bZ,dF (by omega),sF]
  have e1:=Gp (N:=N) (fun i=>bif (p.bU.drop i).any (fun y=>decide (40<y.Next.length)||decide (40<y.Name.length)) then .inr true else .inl ()) (f:=mV N p) (n:=p.bU.length) (fun i hi=>by
    rw [hs i hi]
    simp only [drop_at hi,List.any_cons]
    cases (decide (40<p.bU[i].Next.length)||decide (40<p.bU[i].Name.length))
    · exact .inl ⟨rfl,by simp⟩
    · exact .inr rfl) (by rw [hs2];simp) (by omega)
  have e2:=Gp (N:=N) (fun i=>bif (p.ay.drop i).any (fun y=>decide (20<y.Locks.length)||decide (40<y.Name.length)) then .inr true else .inl ()) (f:=mW N p) (n:=p.ay.length) (fun i hi=>by
    rw [hm i hi]
    simp only [drop_at hi,List.any_cons]
    cases (decide (20<p.ay[i].Locks.length)||decide (40<p.ay[i].Name.length))
    · exact .inl ⟨rfl,by simp⟩
    · exact .inr rfl) (by rw [hm2];simp) (by omega)
  rw [e1,e2]
  simp only [List.drop_zero,bS]
  cases ha:p.bU.any (fun y=>decide (40<y.Next.length)||decide (40<y.Name.length)) with
  | true=>exact .inl rfl
  | false =>
    cases hc:p.ay.any (fun y=>decide (20<y.Locks.length)||decide (40<y.Name.length)) with
    | true=>exact .inl rfl
    | false =>
      have ha':∀ y ∈ p.bU,y.Next.length≤40∧y.Name.length≤40:=fun y hy=>by
        have:=List.any_eq_false.1 ha y hy
        simp only [Bool.or_eq_true,decide_eq_true_eq,not_or] at this
        omega
      have hc':∀ y ∈ p.ay,y.Locks.length≤20∧y.Name.length≤40:=fun y hy=>by
        have:=List.any_eq_false.1 hc y hy
        simp only [Bool.or_eq_true,decide_eq_true_eq,not_or] at this
        omega
      exact .inr ⟨rfl,⟨by omega,by omega,by omega,fun y hy=>by have:=(ha' y hy).1;omega,fun y hy=>by have:=(hc' y hy).1;omega⟩,by omega,by omega,by omega,ha',hc'⟩
end Go.KB
