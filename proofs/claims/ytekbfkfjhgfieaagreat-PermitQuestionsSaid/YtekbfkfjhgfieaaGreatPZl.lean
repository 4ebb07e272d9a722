/- Plain laws of chapter 7: loops, names, sets of names. Plain laws of chapter 7: searches, names, places of spaces and permits. Plain laws of chapter 7: CheckPlan. Plain laws of chapter 7: which plans are looked at. No condition. -/
import Derived.Test.YtekbfkfjhgfieaaGreatPZa
import Derived.Test.YtekbfkfjhgfieaaGreatGPure
namespace Go.KB
set_option linter.unusedVariables false
theorem w64i {n:Int} (h0:-9223372036854775808≤n) (h1:n≤9223372036854775807):IntKind.i64.wrap n=n:=JY h0 h1
theorem dT {p:Prop} [Decidable p] (h:p):decide p=true:=decide_eq_true h
theorem dF {p:Prop} [Decidable p] (h:¬p):decide p=false:=decide_eq_false h
def jg (e:Nat→Int):Nat→Nat→Int
 | 0,_=>0
 | k+1,i=>if e i=0 then jg e k (i+1) else e i
theorem GH {e:Nat→Int}:∀ {k i:Nat},jg e k i=0→∀ j,i≤j→j<i+k→e j=0:=by
 intro k
 induction k with
 | zero=>intro i _ j h1 h2;omega
 | succ k ih =>
  intro i h j h1 h2
  simp only [jg] at h
  split at h
  ·rename_i h0
   rcases Nat.eq_or_lt_of_le h1 with rfl | h1
   ·exact h0
   ·exact ih h j h1 (by omega)
  ·rename_i h0;exact absurd h h0
def xP {O:Type} (fin:O) (err:Int→O) (z:Int):O:=if z=0 then fin else err z
theorem Oo {e:Nat→Int} {k i:Nat} (h:e i=0):jg e (k+1) i=jg e k (i+1):=by simp [jg,h]
theorem Oq {e:Nat→Int} {k i:Nat} (h:e i≠0):jg e (k+1) i=e i:=by simp [jg,h]
theorem AP {O:Type} {n N:Nat} {f:Int→Option (Int ⊕ O)} {e:Nat→Int} {fin:O} {err:Int→O} (hf:∀ i:Nat,i<n→(∀ j,j<i→e j=0)→f (i:Int)=if e i=0 then some (.inl ((i+1:Nat):Int)) else some (.inr (err (e i)))) (he:(∀ j,j<n→e j=0)→f (n:Int)=some (.inr fin)) (hN:n<N) :
  dX f N 0=some (xP fin err (jg e n 0)):=by
 have key:∀ k i,i+k=n→(∀ j,j<i→e j=0)→∀ M,k<M→dX f M (i:Int)=some (xP fin err (jg e k i)):=by
  intro k
  induction k with
  | zero =>
   intro i hi hz M hM
   obtain ⟨M,rfl⟩:∃ m,M=m+1:=⟨M - 1,by omega⟩
   have:i=n:=by omega
   subst this
   simp only [dX,he hz,jg];rfl
  | succ k ih =>
   intro i hi hz M hM
   obtain ⟨M,rfl⟩:∃ m,M=m+1:=⟨M - 1,by omega⟩
   simp only [dX,hf i (by omega) hz]
   by_cases h0:e i=0
   ·rw [if_pos h0,Oo h0]
    exact ih (i+1) (by omega) (fun j hj=>by
     rcases Nat.lt_succ_iff_lt_or_eq.1 hj with h | rfl
     ·exact hz j h
     ·exact h0) M (by omega)
   ·rw [if_neg h0,Oq h0]
    unfold xP
    rw [if_neg h0]
 exact key n 0 (by omega) (fun j hj=>absurd hj (Nat.not_lt_zero _)) N (by omega)
theorem RV {S O:Type} {n N:Nat} {f:S→Option (S ⊕ O)} {e:Nat→Int} {fin:O} {err:Int→O} (g:Nat→S) (hf:∀ i:Nat,i<n→(∀ j,j<i→e j=0)→f (g i)=if e i=0 then some (.inl (g (i+1))) else some (.inr (err (e i)))) (he:(∀ j,j<n→e j=0)→f (g n)=some (.inr fin)) (hN:n<N) :
  dX f N (g 0)=some (xP fin err (jg e n 0)):=by
 have key:∀ k i,i+k=n→(∀ j,j<i→e j=0)→∀ M,k<M→dX f M (g i)=some (xP fin err (jg e k i)):=by
  intro k
  induction k with
  | zero =>
   intro i hi hz M hM
   obtain ⟨M,rfl⟩:∃ m,M=m+1:=⟨M - 1,by omega⟩
   have:i=n:=by omega
   subst this
   simp only [dX,he hz,jg];rfl
  | succ k ih =>
   intro i hi hz M hM
   obtain ⟨M,rfl⟩:∃ m,M=m+1:=⟨M - 1,by omega⟩
   simp only [dX,hf i (by omega) hz]
   by_cases h0:e i=0
   ·rw [if_pos h0,Oo h0]
    exact ih (i+1) (by omega) (fun j hj=>by
     rcases Nat.lt_succ_iff_lt_or_eq.1 hj with h | rfl
     ·exact hz j h
     ·exact h0) M (by omega)
   ·rw [if_neg h0,Oq h0]
    unfold xP
    rw [if_neg h0]
 exact key n 0 (by omega) (fun j hj=>absurd hj (Nat.not_lt_zero _)) N (by omega)
theorem DC {α:Type} [Inhabited α] {l:List α} {i:Nat} (h:i<l.length):l[i]! = l[i]:=by simp [h]
theorem zK {α:Type} [Inhabited α] {l:List α} {i:Nat} (h:i<l.length):idx l (i:Int)=some l[i]!:=by rw [jK h,DC h]
theorem Q7 {α:Type} {b:Bool} {x y:α}:(bif b then some x else some y)=some (bif b then x else y):=by cases b <;> rfl
theorem Ho {α β:Type} [DecidableEq α] (z:β) (x k:α) (y:β):∀ m:List (α×β),jD z (uj m x y) k=if k=x then y else jD z m k
 | []=>by
  by_cases h:k=x
  ·subst h;simp [jD,uj]
  ·simp [jD,uj,h]
 | p :: r=>by
  by_cases hp:x=p.1
  ·subst hp
   by_cases h:k=p.1
   ·subst h;simp [jD,uj]
   ·simp [jD,uj,h]
  ·by_cases h : k = p.1
   ·subst h;simp [jD,uj,hp,Ne.symm hp]
   ·simp [jD,uj,hp,h,Ho z x k y r]
theorem ru (a b:Str):Ag .eql a b=decide (a=b):=by
 unfold Ag
 rw [Bool.eq_iff_iff]
 simp
theorem Vh (a b:Str):Ag .neq a b = !decide (a=b):=by
 rw [← ru];rfl
def dup (nm:Nat→Str):Nat→Str→Bool
 | 0,_=>false
 | i+1,x=>decide (x=nm i)||dup nm i x
def seen (nm:Nat→Str):Nat→List (Str×Bool)
 | 0=>[]
 | i+1=>uj (seen nm i) (nm i) true
theorem MO (nm:Nat→Str) (x:Str):∀ i,jD false (seen nm i) x=dup nm i x
 | 0=>rfl
 | i+1=>by
  simp only [seen,dup,Ho,MO nm x i]
  by_cases h:x=nm i <;> simp [h]
theorem TQ (nm:Nat→Str) (x:Str):∀ i,dup nm i x=true↔∃ j,j<i∧nm j=x
 | 0=>by simp [dup]
 | i+1=>by
  simp only [dup,Bool.or_eq_true,decide_eq_true_eq,TQ nm x i]
  constructor
  ·rintro (h | ⟨j,h1,h2⟩)
   ·exact ⟨i,by omega,h.symm⟩
   ·exact ⟨j,by omega,h2⟩
  ·rintro ⟨j,h1,h2⟩
   by_cases hj:j=i
   ·subst hj;exact .inl h2.symm
   ·exact .inr ⟨j,by omega,h2⟩
def same (nm:Nat→Str) (x:Str) (j:Nat):Int:=if nm j=x then 5 else 0
def jJe (x0:Str) (s1:Int):Option (Int ⊕ (Unit ⊕ Bool)) :=
 bif (aG .lss s1 (List.length x0:Int)) then ((idx x0 s1).bind fun v2=>bif ((!(((aG .geq ((UInt8.toNat v2:Nat):Int) 97)&&(aG .leq ((UInt8.toNat v2:Nat):Int) 122))||((aG .geq ((UInt8.toNat v2:Nat):Int) 65)&&(aG .leq ((UInt8.toNat v2:Nat):Int) 90))))&&((aG .eql s1 0)||((aG .neq ((UInt8.toNat v2:Nat):Int) 45)&&((aG .lss ((UInt8.toNat v2:Nat):Int) 48)||(aG .gtr ((UInt8.toNat v2:Nat):Int) 57))))) then (some (.inr (Sum.inr false))) else (some (.inl (IntKind.i64.wrap (s1+1))))) else (some (.inr (Sum.inl ())))
def nameF (N:Nat) (x0:Str):Option (Bool) :=
 bif ((aG .lss (List.length x0:Int) 1)||(aG .gtr (List.length x0:Int) 12)) then (some false) else ((dX (jJe x0) N 0).bind fun o5=>Sum.elim (fun l7=>some true) (fun r8=>some r8) o5)
theorem jJ0 {N:Nat} {s:Str} (hN:13≤N):nameF N s=some (mZ s):=by
  unfold nameF
  by_cases hlen:s.length<1∨12<s.length
  · have hc:(aG .lss (s.length:Int) 1||aG .gtr (s.length:Int) 12)=true:=by
      simp;omega
    rw [hc,lW]
    congr 1
    unfold mZ
    rcases hlen with h | h
    · have : s = [] := List.eq_nil_of_length_eq_zero (by omega)
      subst this;rfl
    · cases s with
      | nil=>rfl
      | cons c r=>simp at h;simp;intro h';omega
  · have hc:(aG .lss (s.length:Int) 1||aG .gtr (s.length:Int) 12)=false:=by
      rw [Bool.or_eq_false_iff];simp;omega
    rw [hc,mD]
    cases s with
    | nil=>simp at hlen
    | cons c r =>
      have hr:r.length<12:=by simp at hlen;omega
      have hbad:∀ i (hi:i<(c :: r).length),((!(((aG .geq ((UInt8.toNat (c :: r)[i]:Nat):Int) 97)&&(aG .leq ((UInt8.toNat (c :: r)[i]:Nat):Int) 122))||((aG .geq ((UInt8.toNat (c :: r)[i]:Nat):Int) 65)&&(aG .leq ((UInt8.toNat (c :: r)[i]:Nat):Int) 90))))&&((aG .eql (i:Int) 0)||((aG .neq ((UInt8.toNat (c :: r)[i]:Nat):Int) 45)&&((aG .lss ((UInt8.toNat (c :: r)[i]:Nat):Int) 48)||(aG .gtr ((UInt8.toNat (c :: r)[i]:Nat):Int) 57))))) =
          !(if i=0 then BB (c :: r)[i] else yj (c :: r)[i]):=by
        intro i hi
        split
        · rename_i h0;subst h0
          simp only [jS,Int.natCast_zero,decide_true,Bool.true_or,Bool.and_true]
          rfl
        · rename_i h0
          rw [jS,show decide ((i:Int)=0)=false by rw [decide_eq_false_iff_not];omega,Bool.false_or]
          unfold yj BB chr
          simp only [wu,bU,uP,CU,wM]
          generalize ((UInt8.toNat (c :: r)[i]:Nat):Int)=x
          rw [Bool.eq_iff_iff]
          simp only [Bool.and_eq_true,Bool.or_eq_true,Bool.not_eq_true',Bool.or_eq_false_iff,Bool.and_eq_false_iff,decide_eq_true_eq,decide_eq_false_iff_not]
          omega
      rw [Vo (c :: r).length (if mZ (c :: r) then .inl () else .inr false) (fun i=>∀ j (h:j<(c :: r).length),j<i→(if j=0 then BB (c :: r)[j] else yj (c :: r)[j])=true) ?_ ?_ (fun j _ h=>absurd h (Nat.not_lt_zero _)) N (by simp;omega)]
      · cases mZ (c :: r) <;> rfl
      · intro i hi hp
        unfold jJe
        rw [bU,show decide ((i:Int)<((c :: r).length:Int))=true by rw [decide_eq_true_eq];omega,lW,jK hi,bS,hbad i hi,qX (show i<9223372036854775807 by simp at hi;omega)]
        cases hg:(if i=0 then BB (c :: r)[i] else yj (c :: r)[i]) with
        | true =>
          refine .inl ⟨rfl,fun j hj hji=>?_⟩
          rcases Nat.lt_succ_iff_lt_or_eq.1 hji with h | rfl
          · exact hp j hj h
          · exact hg
        | false =>
          refine .inr ?_
          have:mZ (c :: r)=false:=by
            rw [Bool.eq_false_iff]
            intro h
            simp only [mZ,Bool.and_eq_true,decide_eq_true_eq] at h
            obtain ⟨⟨_,h1⟩,h2⟩:=h
            rw [List.all_eq_true] at h2
            cases i with
            | zero=>simp [h1] at hg
            | succ i =>
              simp at hg
              have:=h2 _ (List.getElem_mem (by simpa using hi:i<r.length))
              rw [this] at hg;cases hg
          rw [this];rfl
      · intro hp
        unfold jJe
        rw [bU,show decide ((((c :: r).length:Nat):Int)<((c :: r).length:Int))=false by simp,mD]
        have:mZ (c :: r)=true:=by
          simp only [mZ,Bool.and_eq_true,decide_eq_true_eq]
          refine ⟨⟨hr,(by have h:=hp 0 (by simp) (by simp);rw [if_pos rfl] at h;exact h)⟩,?_⟩
          rw [List.all_eq_true]
          intro x hx
          obtain ⟨j,hj,rfl⟩:=List.getElem_of_mem hx
          have:=hp (j+1) (by simp;omega) (by simp;omega)
          simpa using this
        rw [this];rfl
theorem BR {N:Nat} {s:Str} (hN:13≤N):x9 N s=some (mZ s):=jJ0 hN
end Go.KB
namespace Go.KB
set_option linter.unusedVariables false
theorem NM {O:Type} {n N:Nat} {f:Int→Option (Int ⊕ O)} (R:Nat→O) (hf:∀ i:Nat,i<n→(f (i:Int)=some (.inl ((i+1:Nat):Int))∧R i=R (i+1))∨f (i:Int)=some (.inr (R i))) (he:f (n:Int)=some (.inr (R n))) (hN:n<N):dX f N 0=some (R 0):=by
 have key:∀ k i,i+k=n→∀ M,k<M→dX f M (i:Int)=some (R i):=by
  intro k
  induction k with
  | zero =>
   intro i hi M hM
   obtain ⟨M,rfl⟩:∃ m,M=m+1:=⟨M - 1,by omega⟩
   have:i=n:=by omega
   subst this
   simp only [dX,he]
  | succ k ih =>
   intro i hi M hM
   obtain ⟨M,rfl⟩:∃ m,M=m+1:=⟨M - 1,by omega⟩
   rcases hf i (by omega) with ⟨h1,h2⟩ | h1
   ·simp only [dX,h1];rw [h2];exact ih (i+1) (by omega) M (by omega)
   ·simp only [dX,h1]
 exact key n 0 (by omega) N (by omega)
theorem drop_at {α:Type} {l:List α} {i:Nat} (h:i<l.length):l.drop i=l[i] :: l.drop (i+1):=List.drop_eq_getElem_cons h
theorem Qj {α:Type} {l:List α} {N:Nat} {f:Int→Option (Int ⊕ (Unit ⊕ Bool))} {g:α→Bool} (hf:∀ (i:Nat) (h:i<l.length),f (i:Int)=bif g l[i] then some (.inl ((i+1:Nat):Int)) else some (.inr (.inr false))) (he:f (l.length:Int)=some (.inr (.inl ()))) (hN:l.length<N) :
  ((dX f N 0).bind fun o=>Sum.elim (fun _=>some true) (fun r=>some r) o)=some (l.all g):=by
 rw [NM (fun i=>bif (l.drop i).all g then .inl () else .inr false) (fun i hi=>?_) (by simp [he]) hN]
 ·simp only [List.drop_zero,bS];cases l.all g <;> rfl
 ·rw [hf i hi]
  simp only [drop_at hi,List.all_cons]
  cases g l[i]
  ·exact .inr rfl
  ·exact .inl ⟨rfl,by simp⟩
theorem Qz {α:Type} {l:List α} {N:Nat} {f:Int→Option (Int ⊕ (Unit ⊕ Bool))} {g:α→Bool} (hf:∀ (i:Nat) (h:i<l.length),f (i:Int)=bif g l[i] then some (.inr (.inr true)) else some (.inl ((i+1:Nat):Int))) (he:f (l.length:Int)=some (.inr (.inl ()))) (hN:l.length<N) :
  ((dX f N 0).bind fun o=>Sum.elim (fun _=>some false) (fun r=>some r) o)=some (l.any g):=by
 rw [NM (fun i=>bif (l.drop i).any g then .inr true else .inl ()) (fun i hi=>?_) (by simp [he]) hN]
 ·simp only [List.drop_zero,bS];cases l.any g <;> rfl
 ·rw [hf i hi]
  simp only [drop_at hi,List.any_cons]
  cases g l[i]
  ·exact .inl ⟨rfl,by simp⟩
  ·exact .inr rfl
def Hq {α:Type} (g:α→Bool) (l:List α):Int:=if l.findIdx g<l.length then (l.findIdx g:Int) else -1
theorem zT {α:Type} {l:List α} {N:Nat} {f:Int→Option (Int ⊕ (Unit ⊕ Int))} {g:α→Bool} (hf:∀ (i:Nat) (h:i<l.length),f (i:Int)=bif g l[i] then some (.inr (.inr (i:Int))) else some (.inl ((i+1:Nat):Int))) (he:f (l.length:Int)=some (.inr (.inl ()))) (hN:l.length<N) :
  ((dX f N 0).bind fun o=>Sum.elim (fun _=>some (-1:Int)) (fun r=>some r) o)=some (Hq g l):=by
 rw [NM (fun i=>if (l.drop i).findIdx g<(l.drop i).length then .inr (((i+(l.drop i).findIdx g:Nat)):Int) else .inl ()) (fun i hi=>?_) (by simp [he]) hN]
 ·simp only [List.drop_zero,Nat.zero_add,bS,Hq];split <;> rfl
 ·rw [hf i hi]
  simp only [drop_at hi,List.findIdx_cons]
  cases g l[i]
  ·refine .inl ⟨rfl,?_⟩
   simp only [mD,List.length_cons,Nat.add_lt_add_iff_right]
   split
   ·congr 2;omega
   ·rfl
  ·refine .inr ?_
   simp only [lW,List.length_cons,Nat.zero_lt_succ,if_true,Nat.add_zero]
theorem DJ {α:Type} {g:α→Bool} {l:List α} (h:l.findIdx g<l.length):Hq g l=(l.findIdx g:Int):=if_pos h
theorem IA {α:Type} {g:α→Bool} {l:List α} (h:¬ l.findIdx g<l.length):Hq g l = -1:=if_neg h
theorem Gy {α:Type} {g:α→Bool} {l:List α}:decide (Hq g l<0) = !l.any g:=by
 have:l.any g=true↔l.findIdx g<l.length:=by
  rw [List.any_eq_true]
  exact List.findIdx_lt_length.symm
 by_cases h:l.findIdx g<l.length
 ·rw [DJ h,this.2 h];simp
 ·rw [IA h,Bool.eq_false_iff.2 (fun x=>h (this.1 x))];rfl
theorem FH {N:Nat} {s:Str} (hN:13≤N):rQ N s=some (mZ s):=by
  unfold rQ
  by_cases hlen:s.length<1∨12<s.length
  · have hc : (aG .lss (s.length : Int) 1 || aG .gtr (s.length : Int) 12) = true := by simp; omega
    rw [hc]
    simp only [Bool.not_true,mD,bS,Bool.true_or,lW]
    congr 1
    unfold mZ
    rcases hlen with h | h
    · have : s = [] := List.eq_nil_of_length_eq_zero (by omega)
      subst this;rfl
    · cases s with
      | nil=>rfl
      | cons c r=>simp at h;simp;intro h';omega
  · have hc : (aG .lss (s.length : Int) 1 || aG .gtr (s.length : Int) 12) = false := by rw [Bool.or_eq_false_iff]; simp; omega
    rw [hc]
    cases s with
    | nil=>simp at hlen
    | cons c r =>
      have hr:r.length<12:=by simp at hlen;omega
      have hl:∀ x:UInt8,zH N ((UInt8.toNat x:Nat):Int)=some (BB x):=fun x=>rfl
      have h0:idx (c :: r) 0=some c:=by have:=jK (xs:=c :: r) (i:=0) (by simp);simpa using this
      simp only [Bool.not_false,lW,h0,bS,hl,Bool.false_or]
      cases hc:BB c with
      | false=>simp [mZ,hc]
      | true =>
        simp only [Bool.not_true,mD]
        have h1:∀ (i:Nat) (hi:i<(c :: r).length),uO N (c :: r) (i:Int)=bif yj (c :: r)[i] then some (.inl ((i+1:Nat):Int)) else some (.inr (.inr false)):=by
          intro i hi
          unfold uO
          rw [bU,dT (by omega),lW,jK hi,bS,hl,bS,qX (show i<9223372036854775807 by simp at hi;omega)]
          have:((!BB (c :: r)[i]&&aG .neq ((UInt8.toNat (c :: r)[i]:Nat):Int) 45)&&(aG .lss ((UInt8.toNat (c :: r)[i]:Nat):Int) 48||aG .gtr ((UInt8.toNat (c :: r)[i]:Nat):Int) 57)) = !yj (c :: r)[i]:=by
            unfold yj chr
            cases BB (c :: r)[i]
            · simp only [Bool.not_false,Bool.true_and,Bool.false_or,wu,bU,uP]
              generalize ((UInt8.toNat (c :: r)[i]:Nat):Int)=x
              rw [Bool.eq_iff_iff]
              simp only [Bool.and_eq_true,Bool.or_eq_true,Bool.not_eq_true',Bool.or_eq_false_iff,Bool.and_eq_false_iff,decide_eq_true_eq,decide_eq_false_iff_not]
              omega
            · simp
          rw [this]
          cases yj (c :: r)[i] <;> rfl
        have h2:uO N (c :: r) ((c :: r).length:Int)=some (.inr (.inl ())):=by
          unfold uO
          rw [bU,dF (by omega),mD]
        rw [Qj h1 h2 (by simp;omega)]
        simp [mZ,hc,yj,hr]
instance:Inhabited dH:=⟨⟨[],false,[]⟩⟩
instance:Inhabited aH:=⟨⟨[],0,[],0,0,[]⟩⟩
instance:Inhabited cZ:=⟨⟨0,0,0⟩⟩
def isS (s:Str) (y:dH):Bool:=decide (y.Name=s)
def OY (s:Str) (y:aH):Bool:=decide (y.Name=s)
theorem YA {N:Nat} {l:List dH} {f:dH→Option Bool} {g:dH→Bool} (hf:∀ y,f y=some (g y)) (hl:l.length<1000000) (hN:1000000≤N):lH N l f=some (Hq g l):=by
 unfold lH
 refine zT (fun i hi=>?_) ?_ (by omega)
 ·unfold kL
  rw [bU,dT (by omega),lW,jK hi,bS,hf,bS,qX (by omega)]
 ·unfold kL
  rw [bU,dF (by omega),mD]
theorem YB {N:Nat} {l:List aH} {f:aH→Option Bool} {g:aH→Bool} (hf:∀ y,f y=some (g y)) (hl:l.length<1000000) (hN:1000000≤N):kR N l f=some (Hq g l):=by
 unfold kR
 refine zT (fun i hi=>?_) ?_ (by omega)
 ·unfold jU
  rw [bU,dT (by omega),lW,jK hi,bS,hf,bS,qX (by omega)]
 ·unfold jU
  rw [bU,dF (by omega),mD]
theorem wF {N:Nat} {p:GPermitPlan} {s:Str} (hl:p.bM.length<1000000) (hN:1000000≤N):jh N p s=some (Hq (isS s) p.bM):=by
 unfold jh
 refine zT (fun i hi=>?_) ?_ (by omega)
 ·unfold yK
  rw [bU,dT (by omega),lW,jK hi,bS,ru,qX (by omega)];rfl
 ·unfold yK
  rw [bU,dF (by omega),mD]
theorem Fv {N:Nat} {p:GPermitPlan} {s:Str} (hl:p.ak.length<1000000) (hN:1000000≤N):qc N p s=some (Hq (OY s) p.ak):=by
 unfold qc
 refine zT (fun i hi=>?_) ?_ (by omega)
 ·unfold xG
  rw [bU,dT (by omega),lW,jK hi,bS,ru,qX (by omega)];rfl
 ·unfold xG
  rw [bU,dF (by omega),mD]
def BU {α:Type} (z:α) (g:α→Bool) (l:List α):α×Bool:=match l.find? g with | some y=>(y,true) | none=>(z,false)
theorem O1 {α:Type} {g:α→Bool}:∀ {l:List α},(l.findIdx g<l.length∧∃ h:l.findIdx g<l.length,l.find? g=some l[l.findIdx g])∨(¬ l.findIdx g<l.length∧l.find? g=none):=by
 intro l
 by_cases h:l.findIdx g<l.length
 ·refine .inl ⟨h,h,?_⟩
  exact (List.find?_eq_getElem?_findIdx ..).trans (List.getElem?_eq_getElem h)
 ·refine .inr ⟨h,?_⟩
  rw [List.find?_eq_getElem?_findIdx,List.getElem?_eq_none (by omega)]
theorem AB {N:Nat} {p:GPermitPlan} {s:Str} (hl:p.bM.length<1000000) (hN:1000000≤N):je N p s=some (BU ⟨[],false,[]⟩ (isS s) p.bM):=by
 unfold je
 rw [YA (g:=isS s) (fun y=>by unfold wK;rw [ru];rfl) hl hN,bS,bU]
 unfold BU
 rcases O1 (g:=isS s) (l:=p.bM) with ⟨_,h,h2⟩ | ⟨h,h2⟩
 ·rw [h2,DJ h,dF (by omega),mD,jK h];rfl
 ·rw [h2,IA h];rfl
theorem DZ {N:Nat} {p:GPermitPlan} {s:Str} (hl:p.ak.length<1000000) (hN:1000000≤N):oU N p s=some (BU ⟨[],0,[],0,0,[]⟩ (OY s) p.ak):=by
 unfold oU
 rw [YB (g:=OY s) (fun y=>by unfold vU;rw [ru];rfl) hl hN,bS,bU]
 unfold BU
 rcases O1 (g:=OY s) (l:=p.ak) with ⟨_,h,h2⟩ | ⟨h,h2⟩
 ·rw [h2,DJ h,dF (by omega),mD,jK h];rfl
 ·rw [h2,IA h];rfl
theorem Hf {α:Type} {z:α} {g:α→Bool} {l:List α}:(BU z g l).2=l.any g:=by
 unfold BU
 cases h:l.find? g with
 | none=>simp only [];rw [eq_comm,Bool.eq_false_iff];intro hx;rw [List.any_eq_true] at hx;obtain ⟨x,hx,hg⟩:=hx;exact absurd hg (by simpa using List.find?_eq_none.1 h x hx)
 | some y=>simp only [];rw [eq_comm,List.any_eq_true];exact ⟨y,List.mem_of_find?_eq_some h,List.find?_some h⟩
end Go.KB
namespace Go.KB
set_option linter.unusedVariables false
def JJ (a b:Int):Int:=if a=0 then b else a
def DI (k:Int):Bool:=decide (0≤k)&&decide (k≤5)
def MP (p:GPermitPlan) (i:Nat):Str:=p.bM[i]!.Name
def O0 (p:GPermitPlan) (i:Nat):Str:=p.ak[i]!.Name
def uY (p:GPermitPlan) (s:Str):Bool:=p.bM.any (isS s)
def l9 (p:GPermitPlan) (s:Str):Bool:=p.ak.any (OY s)
def tK (p:GPermitPlan) (s:Str):aH:=(BU ⟨[],0,[],0,0,[]⟩ (OY s) p.ak).1
def yN (p:GPermitPlan) (s:Str):dH:=(BU ⟨[],false,[]⟩ (isS s) p.bM).1
def eSp (p:GPermitPlan) (i:Nat):Int:=if mZ (MP p i)=false then 4 else if dup (MP p) i (MP p i)=true then 5 else if 30<p.bM[i]!.Next.length then 8 else 0
def eNx (p:GPermitPlan) (y:dH) (j:Nat):Int:=if uY p y.Next[j]! = false then 6 else if y.Next[j]! = y.Name then 3 else 0
def QK (p:GPermitPlan) (i:Nat):Int:=jg (eNx p p.bM[i]!) p.bM[i]!.Next.length 0
def eEx (p:GPermitPlan) (i:Nat):Int:=if DI p.dY[i]!.A=false∨DI p.dY[i]!.B=false∨p.dY[i]!.Reach<0∨2<p.dY[i]!.Reach then 2 else 0
def ePm (p:GPermitPlan) (i:Nat):Int:=if mZ (O0 p i)=false then 4 else if dup (O0 p) i (O0 p i)=true then 5 else
 if DI p.ak[i]!.Kind=false∨p.ak[i]!.From<0∨p.ak[i]!.To≤p.ak[i]!.From∨1000000<p.ak[i]!.To then 2 else if uY p p.ak[i]!.Space=false then 6 else if 10<p.ak[i]!.Locks.length then 8 else 0
def eLk (p:GPermitPlan) (y:aH) (j:Nat):Int:=if l9 p y.Locks[j]! = false then 6 else if (tK p y.Locks[j]!).Kind≠5∨y.Kind=5 then 3 else 0
def Vp (p:GPermitPlan) (i:Nat):Int:=jg (eLk p p.ak[i]!) p.ak[i]!.Locks.length 0
def yO (p:GPermitPlan):Int:=if 30<p.bM.length∨30<p.dY.length∨20<p.ak.length then 8 else if p.gB<1∨10000<p.gB then 2 else
 JJ (JJ (jg (eSp p) p.bM.length 0) (jg (QK p) p.bM.length 0)) (JJ (jg (eEx p) p.dY.length 0) (JJ (jg (ePm p) p.ak.length 0) (jg (Vp p) p.ak.length 0)))
structure FW (p:GPermitPlan):Prop where
 s:p.bM.length<1000
 x:p.dY.length<1000
 m:p.ak.length<1000
 n:∀ y ∈ p.bM,y.Next.length<1000
 l:∀ y ∈ p.ak,y.Locks.length<1000
theorem rC {α:Type} [Inhabited α] {l:List α} {i:Nat} (h:i<l.length):l[i]! ∈ l:=by rw [DC h];exact List.getElem_mem h
theorem yt {A:Type} {fin:A} {E:Int} {K:A→Option Int}:((some (xP (Sum.inl fin) (fun e=>Sum.inr e) E):Option (A ⊕ Int)).bind fun o=>Sum.elim (fun l=>K l) (fun r=>some r) o)=if E=0 then K fin else some E:=by
 unfold xP
 by_cases h:E=0
 ·rw [if_pos h,if_pos h];rfl
 ·rw [if_neg h,if_neg h];rfl
theorem WZ {α:Type} [Inhabited α] {nm:α→Str} {x:Str} {l:List α} {i:Nat} (hi:i≤l.length):dup (fun j=>nm l[j]!) i x=(decide (0≤Hq (fun y=>decide (nm y=x)) l)&&decide (Hq (fun y=>decide (nm y=x)) l<(i:Int))):=by
 rw [Bool.eq_iff_iff,TQ,Bool.and_eq_true,decide_eq_true_eq,decide_eq_true_eq]
 constructor
 ·rintro ⟨j,hj,hx⟩
  have hjl:j<l.length:=by omega
  rw [DC hjl] at hx
  have hle:l.findIdx (fun y=>decide (nm y=x))≤j:=by
   rcases Nat.lt_or_ge j (l.findIdx (fun y=>decide (nm y=x))) with h | h
   ·exact absurd (List.not_of_lt_findIdx h) (by simp [hx])
   ·exact h
  rw [DJ (by omega)]
  omega
 ·rintro ⟨h1,h2⟩
  by_cases h:l.findIdx (fun y=>decide (nm y=x))<l.length
  ·rw [DJ h] at h2
   refine ⟨l.findIdx (fun y=>decide (nm y=x)),by omega,?_⟩
   show nm l[l.findIdx (fun y=>decide (nm y=x))]! = x
   rw [DC h]
   have:=List.findIdx_getElem (xs:=l) (p:=fun y=>decide (nm y=x)) (w:=h)
   simpa using this
  ·rw [IA h] at h1;omega
theorem jXg {α:Type} [Inhabited α] {nm:α→Str} {x:Str} {l:List α}:dup (fun j=>nm l[j]!) l.length x=l.any (fun y=>decide (nm y=x)):=by
 rw [WZ (Nat.le_refl _)]
 have:=Gy (g:=fun y=>decide (nm y=x)) (l:=l)
 by_cases h:l.findIdx (fun y=>decide (nm y=x))<l.length
 ·rw [DJ h] at this ⊢
  rw [dF (by omega)] at this
  rw [dT (by omega),dT (by omega)]
  cases hx:l.any (fun y=>decide (nm y=x)) with
  | true=>rfl
  | false=>rw [hx] at this;cases this
 ·rw [IA h] at this ⊢
  cases hx:l.any (fun y=>decide (nm y=x)) with
  | false=>rfl
  | true=>rw [hx] at this;cases this
theorem XU {N:Nat} {k:Int}:zS N k=some (DI k):=rfl
theorem jJ1 {N:Nat} {k:Int}:AY N k=some (DI k):=rfl
section
variable {N:Nat} {p:GPermitPlan} (hp:FW p) (hN:1000000≤N)
include hp hN
theorem cs3:dX (qF N p) N (([]:List (Str×Bool)),0)=some (xP (.inl (seen (MP p) p.bM.length)) (fun e=>.inr e) (jg (eSp p) p.bM.length 0)):=by
 have hs:=hp.s
 refine RV (fun i=>(seen (MP p) i,(i:Int))) (fun i hi _=>?_) (fun _=>?_) (by omega)
 ·unfold qF eSp
  simp only []
  rw [bU,dT (by omega),lW,zK hi,bS,FH (by omega),bS,MO,qX (by omega),uP]
  show (bif !mZ (MP p i) then _ else bif dup (MP p) i (MP p i) then _ else _)=_
  cases mZ (MP p i) with
  | false=>rfl
  | true =>
   cases dup (MP p) i (MP p i) with
   | true=>rfl
   | false =>
    by_cases h:30<p.bM[i]!.Next.length
    ·rw [dT (show (30:Int)<(p.bM[i]!.Next.length:Int) by omega),if_pos h];rfl
    ·rw [dF (show ¬ (30:Int)<(p.bM[i]!.Next.length:Int) by omega),if_neg h];rfl
 ·unfold qF
  simp only []
  rw [bU,dF (by omega),mD]
theorem cs1 {y:dH} (hy:y ∈ p.bM):dX (qH N (seen (MP p) p.bM.length) y) N 0=some (xP (.inl ()) (fun e=>.inr e) (jg (eNx p y) y.Next.length 0)):=by
 have hl:=hp.n y hy
 refine AP (fun i hi _=>?_) (fun _=>?_) (by omega)
 ·unfold qH eNx
  rw [bU,dT (by omega),lW,zK hi,bS,MO,show dup (MP p) p.bM.length y.Next[i]! = uY p y.Next[i]! from jXg,qX (by omega),ru]
  cases uY p y.Next[i]! with
  | false=>rfl
  | true =>
   by_cases h:y.Next[i]! = y.Name
   ·rw [dT h,if_pos h];rfl
   ·rw [dF h,if_neg h];rfl
 ·unfold qH
  rw [bU,dF (by omega),mD]
theorem cs2:dX (qG N p (seen (MP p) p.bM.length)) N 0=some (xP (.inl ()) (fun e=>.inr e) (jg (QK p) p.bM.length 0)):=by
 have hs:=hp.s
 refine AP (fun i hi _=>?_) (fun _=>?_) (by omega)
 ·unfold qG
  rw [bU,dT (by omega),lW,zK hi,bS,cs1 hp hN (rC hi),qX (by omega),bS]
  show Sum.elim _ _ (xP _ _ (QK p i))=_
  unfold xP
  by_cases h:QK p i=0
  ·rw [if_pos h,if_pos h];rfl
  ·rw [if_neg h,if_neg h];rfl
 ·unfold qG
  rw [bU,dF (by omega),mD]
theorem QL:uV N p=some (JJ (jg (eSp p) p.bM.length 0) (jg (QK p) p.bM.length 0)):=by
 unfold uV
 rw [cs3 hp hN,yt,cs2 hp hN,yt]
 unfold JJ
 split
 ·split
  ·rename_i h;rw [h]
  ·rfl
 ·rfl
theorem rcs3:dX (qR N p) N 0=some (xP (.inl ()) (fun e=>.inr e) (jg (eSp p) p.bM.length 0)):=by
 have hs:=hp.s
 refine AP (fun i hi _=>?_) (fun _=>?_) (by omega)
 ·unfold qR eSp
  rw [bU,dT (by omega),lW,zK hi,bS,BR (by omega),bS]
  have hd:yL N p (i:Int) (MP p i)=some (dup (MP p) i (MP p i)):=by
   unfold yL
   rw [wF (by omega) hN,bS,CU,bU]
   exact congrArg some (WZ (nm:=dH.Name) (x:=MP p i) (l:=p.bM) (Nat.le_of_lt hi)).symm
  rw [bS,show yL N p (i:Int) p.bM[i]!.Name=_ from hd,bS,bS,qX (by omega),uP]
  show (bif !mZ (MP p i) then _ else bif dup (MP p) i (MP p i) then _ else _)=_
  cases mZ (MP p i) with
  | false=>rfl
  | true =>
   cases dup (MP p) i (MP p i) with
   | true=>rfl
   | false =>
    by_cases h:30<p.bM[i]!.Next.length
    ·rw [dT (show (30:Int)<(p.bM[i]!.Next.length:Int) by omega),if_pos h];rfl
    ·rw [dF (show ¬ (30:Int)<(p.bM[i]!.Next.length:Int) by omega),if_neg h];rfl
 ·unfold qR
  rw [bU,dF (by omega),mD]
theorem rcs1 {i:Nat} (hi:i<p.bM.length):dX (qV N p (i:Int)) N 0=some (xP (.inl ()) (fun e=>.inr e) (QK p i)):=by
 have hl:=hp.n _ (rC hi)
 have hs:=hp.s
 refine AP (fun j hj _=>?_) (fun _=>?_) (by omega)
 ·unfold qV eNx
  rw [zK hi,bS,bU,dT (by omega),lW,bS,zK hj,bS,wF (by omega) hN,bS,bU,Gy,bS,zK hj,bS,bS,qX (by omega),ru]
  show (bif !uY p _ then _ else _)=_
  cases uY p p.bM[i]!.Next[j]! with
  | false=>rfl
  | true =>
   by_cases h:p.bM[i]!.Next[j]! = p.bM[i]!.Name
   ·rw [dT h,if_pos h];rfl
   ·rw [dF h,if_neg h];rfl
 ·unfold qV
  rw [zK hi,bS,bU,dF (by omega),mD]
theorem rcs2:dX (qU N p) N 0=some (xP (.inl ()) (fun e=>.inr e) (jg (QK p) p.bM.length 0)):=by
 have hs:=hp.s
 refine AP (fun i hi _=>?_) (fun _=>?_) (by omega)
 ·unfold qU
  rw [bU,dT (by omega),lW,rcs1 hp hN hi,qX (by omega),bS]
  unfold xP
  by_cases h:QK p i=0
  ·rw [if_pos h,if_pos h];rfl
  ·rw [if_neg h,if_neg h];rfl
 ·unfold qU
  rw [bU,dF (by omega),mD]
theorem OE:vT N p=some (JJ (jg (eSp p) p.bM.length 0) (jg (QK p) p.bM.length 0)):=by
 unfold vT
 rw [rcs3 hp hN,yt,rcs2 hp hN,yt]
 unfold JJ
 split
 ·split
  ·rename_i h;rw [h]
  ·rfl
 ·rfl
omit hp hN in
theorem ex_eq {a b:Bool} {r:Int}:((((!a)||(!(bif !(!a) then b else false)))||(aG .lss r 0))||(aG .gtr r 2))=decide (a=false∨b=false∨r<0∨2<r):=by
 rw [Bool.eq_iff_iff,bU,uP]
 cases a <;> cases b <;> simp
omit hN in
theorem exL (hN2:p.dY.length<N):dX (rJ N p) N 0=some (xP (.inl ()) (fun e=>.inr e) (jg (eEx p) p.dY.length 0)):=by
 have hs:=hp.x
 refine AP (fun i hi _=>?_) (fun _=>?_) hN2
 ·unfold rJ eEx
  simp only [XU]
  rw [bU,dT (by omega),lW,zK hi,bS,bS,Q7,bS,qX (by omega),ex_eq]
  by_cases h:DI p.dY[i]!.A=false∨DI p.dY[i]!.B=false∨p.dY[i]!.Reach<0∨2<p.dY[i]!.Reach
  ·rw [dT h,if_pos h];rfl
  ·rw [dF h,if_neg h];rfl
 ·unfold rJ
  rw [bU,dF (by omega),mD]
omit hN in
theorem rexL (hN2:p.dY.length<N):dX (xI N p) N 0=some (xP (.inl ()) (fun e=>.inr e) (jg (eEx p) p.dY.length 0)):=exL hp hN2
omit hp hN in
theorem rg_eq {a:Bool} {x y:Int}:((((!a)||(aG .lss x 0))||(aG .geq x y))||(aG .gtr y 1000000))=decide (a=false∨x<0∨y≤x∨1000000<y):=by
 rw [Bool.eq_iff_iff,bU,uP,CU]
 cases a <;> simp [or_assoc]
theorem pm3:dX (qj N p) N (([]:List (Str×Bool)),0)=some (xP (.inl ()) (fun e=>.inr e) (jg (ePm p) p.ak.length 0)):=by
 have hs:=hp.s
 have hm:=hp.m
 refine RV (fun i=>(seen (O0 p) i,(i:Int))) (fun i hi _=>?_) (fun _=>?_) (by omega)
 ·unfold qj ePm
  simp only []
  rw [bU,dT (by omega),lW,zK hi,bS,AB (by omega) hN,bS,FH (by omega),bS,MO,qX (by omega),XU,bS,rg_eq,Hf,uP]
  show (bif !mZ (O0 p i) then _ else bif dup (O0 p) i (O0 p i) then _ else bif _ then _ else bif !uY p p.ak[i]!.Space then _ else _)=_
  cases mZ (O0 p i) with
  | false=>rfl
  | true =>
   cases dup (O0 p) i (O0 p i) with
   | true=>rfl
   | false =>
    by_cases h:DI p.ak[i]!.Kind=false∨p.ak[i]!.From<0∨p.ak[i]!.To≤p.ak[i]!.From∨1000000<p.ak[i]!.To
    ·rw [dT h,if_pos h];rfl
    ·rw [dF h,if_neg h]
     cases uY p p.ak[i]!.Space with
     | false=>rfl
     | true =>
      by_cases h:10<p.ak[i]!.Locks.length
      ·rw [dT (show (10:Int)<(p.ak[i]!.Locks.length:Int) by omega),if_pos h];rfl
      ·rw [dF (show ¬ (10:Int)<(p.ak[i]!.Locks.length:Int) by omega),if_neg h];rfl
 ·unfold qj
  simp only []
  rw [bU,dF (by omega),mD]
theorem rpm3:dX (sQ N p) N 0=some (xP (.inl ()) (fun e=>.inr e) (jg (ePm p) p.ak.length 0)):=by
 have hs:=hp.s
 have hm:=hp.m
 refine AP (fun i hi _=>?_) (fun _=>?_) (by omega)
 ·unfold sQ ePm
  have hd:aG .lss (Hq (OY p.ak[i]!.Name) p.ak) (i:Int)=dup (O0 p) i (O0 p i):=by
   have h1:=WZ (nm:=aH.Name) (x:=O0 p i) (l:=p.ak) (Nat.le_of_lt hi)
   have h2:(0:Int)≤Hq (OY p.ak[i]!.Name) p.ak:=by
    have:=Gy (g:=OY p.ak[i]!.Name) (l:=p.ak)
    have h3:p.ak.any (OY p.ak[i]!.Name)=true:=List.any_eq_true.2 ⟨_,rC hi,by simp [OY]⟩
    rw [h3] at this
    simpa using this
   rw [bU]
   show _=dup (fun j=>p.ak[j]!.Name) i (O0 p i)
   rw [h1]
   show _=(decide ((0:Int)≤Hq (OY p.ak[i]!.Name) p.ak)&&decide (Hq (OY p.ak[i]!.Name) p.ak<(i:Int)))
   rw [dT h2,Bool.true_and]
  rw [bU,dT (by omega),lW,zK hi,bS,BR (by omega),bS,Fv (by omega) hN,bS,hd,jJ1,bS,rg_eq,wF (by omega) hN,bS,bU,Gy,uP,qX (by omega)]
  show (bif !mZ (O0 p i) then _ else bif dup (O0 p) i (O0 p i) then _ else bif _ then _ else bif !uY p p.ak[i]!.Space then _ else _)=_
  cases mZ (O0 p i) with
  | false=>rfl
  | true =>
   cases dup (O0 p) i (O0 p i) with
   | true=>rfl
   | false =>
    by_cases h:DI p.ak[i]!.Kind=false∨p.ak[i]!.From<0∨p.ak[i]!.To≤p.ak[i]!.From∨1000000<p.ak[i]!.To
    ·rw [dT h,if_pos h];rfl
    ·rw [dF h,if_neg h]
     cases uY p p.ak[i]!.Space with
     | false=>rfl
     | true =>
      by_cases h:10<p.ak[i]!.Locks.length
      ·rw [dT (show (10:Int)<(p.ak[i]!.Locks.length:Int) by omega),if_pos h];rfl
      ·rw [dF (show ¬ (10:Int)<(p.ak[i]!.Locks.length:Int) by omega),if_neg h];rfl
 ·unfold sQ
  rw [bU,dF (by omega),mD]
omit hp hN in
theorem lk_eq {a b:Int}:((aG .neq a 5)||(aG .eql b 5))=decide (a≠5∨b=5):=by
 rw [Bool.eq_iff_iff,wu,jS];simp
theorem lk1 {y:aH} (hy:y ∈ p.ak):dX (qm N p y) N 0=some (xP (.inl ()) (fun e=>.inr e) (jg (eLk p y) y.Locks.length 0)):=by
 have hm:=hp.m
 have hl:=hp.l y hy
 refine AP (fun i hi _=>?_) (fun _=>?_) (by omega)
 ·unfold qm eLk
  rw [bU,dT (by omega),lW,zK hi,bS,DZ (by omega) hN,bS,Hf,lk_eq,qX (by omega)]
  show (bif !l9 p y.Locks[i]! then _ else bif decide ((tK p y.Locks[i]!).Kind≠5∨y.Kind=5) then _ else _)=_
  cases l9 p y.Locks[i]! with
  | false=>rfl
  | true =>
   by_cases h:(tK p y.Locks[i]!).Kind≠5∨y.Kind=5
   ·rw [dT h,if_pos h];rfl
   ·rw [dF h,if_neg h];rfl
 ·unfold qm
  rw [bU,dF (by omega),mD]
theorem lk2:dX (ql N p) N 0=some (xP (.inl ()) (fun e=>.inr e) (jg (Vp p) p.ak.length 0)):=by
 have hm:=hp.m
 refine AP (fun i hi _=>?_) (fun _=>?_) (by omega)
 ·unfold ql
  rw [bU,dT (by omega),lW,zK hi,bS,lk1 hp hN (rC hi),qX (by omega),bS]
  show Sum.elim _ _ (xP _ _ (Vp p i))=_
  unfold xP
  by_cases h:Vp p i=0
  ·rw [if_pos h,if_pos h];rfl
  ·rw [if_neg h,if_neg h];rfl
 ·unfold ql
  rw [bU,dF (by omega),mD]
theorem rlk1 {y:aH} (hy:y ∈ p.ak):dX (sU N p y) N 0=some (xP (.inl ()) (fun e=>.inr e) (jg (eLk p y) y.Locks.length 0)):=by
 have hm:=hp.m
 have hl:=hp.l y hy
 refine AP (fun i hi _=>?_) (fun _=>?_) (by omega)
 ·unfold sU eLk
  rw [bU,dT (by omega),lW,zK hi,bS,Fv (by omega) hN,bS,bU,Gy,qX (by omega)]
  show (bif !l9 p y.Locks[i]! then _ else _)=_
  cases hx:l9 p y.Locks[i]! with
  | false=>rfl
  | true =>
   rw [Bool.not_true,mD]
   have hg:idx p.ak (Hq (OY y.Locks[i]!) p.ak)=some (tK p y.Locks[i]!):=by
    unfold tK BU
    rcases O1 (g:=OY y.Locks[i]!) (l:=p.ak) with ⟨_,h,h2⟩ | ⟨h,h2⟩
    ·rw [h2,DJ h,jK h]
    ·have:=Gy (g:=OY y.Locks[i]!) (l:=p.ak)
     rw [show p.ak.any (OY y.Locks[i]!)=true from hx,IA h] at this
     cases this
   rw [hg,bS,lk_eq]
   by_cases h:(tK p y.Locks[i]!).Kind≠5∨y.Kind=5
   ·rw [dT h,if_pos h];rfl
   ·rw [dF h,if_neg h];rfl
 ·unfold sU
  rw [bU,dF (by omega),mD]
theorem rlk2:dX (sS N p) N 0=some (xP (.inl ()) (fun e=>.inr e) (jg (Vp p) p.ak.length 0)):=by
 have hm:=hp.m
 refine AP (fun i hi _=>?_) (fun _=>?_) (by omega)
 ·unfold sS
  rw [bU,dT (by omega),lW,zK hi,bS,rlk1 hp hN (rC hi),qX (by omega),bS]
  show Sum.elim _ _ (xP _ _ (Vp p i))=_
  unfold xP
  by_cases h:Vp p i=0
  ·rw [if_pos h,if_pos h];rfl
  ·rw [if_neg h,if_neg h];rfl
 ·unfold sS
  rw [bU,dF (by omega),mD]
theorem OG:uH N p=some (JJ (jg (ePm p) p.ak.length 0) (jg (Vp p) p.ak.length 0)):=by
 unfold uH
 rw [pm3 hp hN,yt,lk2 hp hN,yt]
 unfold JJ
 split
 ·split
  ·rename_i h;rw [h]
  ·rfl
 ·rfl
omit hp hN in
theorem jJ2:(((aG .gtr (List.length p.bM:Int) 30)||(aG .gtr (List.length p.dY:Int) 30))||(aG .gtr (List.length p.ak:Int) 20))=decide (30<p.bM.length∨30<p.dY.length∨20<p.ak.length):=by
 rw [Bool.eq_iff_iff];simp only [uP,Bool.or_eq_true,decide_eq_true_eq];omega
omit hp hN in
theorem jJ3 {g:Int}:((aG .lss g 1)||(aG .gtr g 10000))=decide (g<1∨10000<g):=by
 rw [Bool.eq_iff_iff];simp
theorem TP:uM N p=some (yO p):=by
  have hx:=hp.x
  unfold uM yO
  rw [jJ2,jJ3]
  by_cases h:30<p.bM.length∨30<p.dY.length∨20<p.ak.length
  · rw [dT h,if_pos h];rfl
  · rw [dF h,if_neg h,mD]
    by_cases h:p.gB<1∨10000<p.gB
    · rw [dT h,if_pos h];rfl
    · rw [dF h,if_neg h,mD,QL hp hN,bS,wu]
      generalize JJ (jg (eSp p) p.bM.length 0) (jg (QK p) p.bM.length 0)=E
      unfold JJ
      by_cases h:E=0
      · rw [dT h, if_pos h, Bool.not_true, mD, exL hp (by omega), yt, OG hp hN]
        unfold JJ
        split
        · rfl
        · rfl
      · rw [dF h,if_neg h];rfl
theorem Q8:xH N p=some (yO p):=by
  have hx:=hp.x
  unfold xH yO
  rw [jJ2,jJ3]
  by_cases h:30<p.bM.length∨30<p.dY.length∨20<p.ak.length
  · rw [dT h,if_pos h];rfl
  · rw [dF h,if_neg h,mD]
    by_cases h:p.gB<1∨10000<p.gB
    · rw [dT h,if_pos h];rfl
    · rw [dF h,if_neg h,mD,OE hp hN,bS,wu]
      generalize JJ (jg (eSp p) p.bM.length 0) (jg (QK p) p.bM.length 0)=E
      unfold JJ
      by_cases h:E=0
      · rw [dT h, if_pos h, Bool.not_true, mD, rexL hp (by omega), yt, rpm3 hp hN, yt, rlk2 hp hN, yt]
        split
        · split
          · split
            · rename_i h1 h2 h3;rw [h3]
            · rfl
          · rfl
        · rfl
      · rw [dF h,if_neg h];rfl
end
end Go.KB
namespace Go.KB
set_option linter.unusedVariables false
theorem jJ4 {N:Nat} (p:GPermitPlan) (hN:1000000≤N):zQ N p=some true∨(zQ N p=some false∧FW p∧p.bM.length≤40∧p.dY.length≤40∧p.ak.length≤30∧(∀ y ∈ p.bM,y.Next.length≤40∧y.Name.length≤40)∧∀ y ∈ p.ak,y.Locks.length≤20∧y.Name.length≤40):=by
  unfold zQ
  have hb:(((aG .gtr (List.length p.bM:Int) 40)||(aG .gtr (List.length p.dY:Int) 40))||(aG .gtr (List.length p.ak:Int) 30))=decide (40<p.bM.length∨40<p.dY.length∨30<p.ak.length):=by
    rw [Bool.eq_iff_iff];simp only [uP,Bool.or_eq_true,decide_eq_true_eq];omega
  rw [hb]
  by_cases h:40<p.bM.length∨40<p.dY.length∨30<p.ak.length
  · rw [dT h];exact .inl rfl
  rw [dF h,mD]
  have hs:∀ (i:Nat) (hi:i<p.bM.length),sN N p (i:Int)=bif (decide (40<p.bM[i].Next.length)||decide (40<p.bM[i].Name.length)) then some (.inr (.inr true)) else some (.inl ((i+1:Nat):Int)):=by
    intro i hi
    unfold sN
    rw [bU,dT (by omega),lW,jK hi,bS,qX (by omega)]
    simp only [uP]
    by_cases h1:40<p.bM[i].Next.length
    · rw [dT h1,dT (show (40:Int)<(p.bM[i].Next.length:Int) by omega)];rfl
    · rw [dF h1, dF (show ¬ (40 : Int) < (p.bM[i].Next.length : Int) by omega), Bool.not_false, lW, bS, Bool.false_or, Bool.false_or]
      by_cases h2:40<p.bM[i].Name.length
      · rw [dT h2,dT (show (40:Int)<(p.bM[i].Name.length:Int) by omega)]
      · rw [dF h2,dF (show ¬ (40:Int)<(p.bM[i].Name.length:Int) by omega)]
  have hs2:sN N p (p.bM.length:Int)=some (.inr (.inl ())):=by
    unfold sN
    rw [bU,dF (by omega),mD]
  have hm:∀ (i:Nat) (hi:i<p.ak.length),sO N p (i:Int)=bif (decide (20<p.ak[i].Locks.length)||decide (40<p.ak[i].Name.length)) then some (.inr (.inr true)) else some (.inl ((i+1:Nat):Int)):=by
    intro i hi
    unfold sO
    rw [bU,dT (by omega),lW,jK hi,bS,qX (by omega)]
    simp only [uP]
    by_cases h1:20<p.ak[i].Locks.length
    · rw [dT h1,dT (show (20:Int)<(p.ak[i].Locks.length:Int) by omega)];rfl
    · rw [dF h1, dF (show ¬ (20 : Int) < (p.ak[i].Locks.length : Int) by omega), Bool.not_false, lW, bS, Bool.false_or, Bool.false_or]
      by_cases h2:40<p.ak[i].Name.length
      · rw [dT h2,dT (show (40:Int)<(p.ak[i].Name.length:Int) by omega)]
      · rw [dF h2,dF (show ¬ (40:Int)<(p.ak[i].Name.length:Int) by omega)]
  have hm2:sO N p (p.ak.length:Int)=some (.inr (.inl ())):=by
    unfold sO
    rw [bU,dF (by omega),mD]
  have e1:=NM (N:=N) (fun i=>bif (p.bM.drop i).any (fun y=>decide (40<y.Next.length)||decide (40<y.Name.length)) then .inr true else .inl ()) (f:=sN N p) (n:=p.bM.length) (fun i hi=>by
    rw [hs i hi]
    simp only [drop_at hi,List.any_cons]
    cases (decide (40<p.bM[i].Next.length)||decide (40<p.bM[i].Name.length))
    · exact .inl ⟨rfl,by simp⟩
    · exact .inr rfl) (by rw [hs2];simp) (by omega)
  have e2:=NM (N:=N) (fun i=>bif (p.ak.drop i).any (fun y=>decide (20<y.Locks.length)||decide (40<y.Name.length)) then .inr true else .inl ()) (f:=sO N p) (n:=p.ak.length) (fun i hi=>by
    rw [hm i hi]
    simp only [drop_at hi,List.any_cons]
    cases (decide (20<p.ak[i].Locks.length)||decide (40<p.ak[i].Name.length))
    · exact .inl ⟨rfl,by simp⟩
    · exact .inr rfl) (by rw [hm2];simp) (by omega)
  rw [e1,e2]
  simp only [List.drop_zero,bS]
  cases ha:p.bM.any (fun y=>decide (40<y.Next.length)||decide (40<y.Name.length)) with
  | true=>exact .inl rfl
  | false =>
    cases hc:p.ak.any (fun y=>decide (20<y.Locks.length)||decide (40<y.Name.length)) with
    | true=>exact .inl rfl
    | false =>
      have ha':∀ y ∈ p.bM,y.Next.length≤40∧y.Name.length≤40:=fun y hy=>by
        have:=List.any_eq_false.1 ha y hy
        simp only [Bool.or_eq_true,decide_eq_true_eq,not_or] at this
        omega
      have hc':∀ y ∈ p.ak,y.Locks.length≤20∧y.Name.length≤40:=fun y hy=>by
        have:=List.any_eq_false.1 hc y hy
        simp only [Bool.or_eq_true,decide_eq_true_eq,not_or] at this
        omega
      exact .inr ⟨rfl,⟨by omega,by omega,by omega,fun y hy=>by have:=(ha' y hy).1;omega,fun y hy=>by have:=(hc' y hy).1;omega⟩,by omega,by omega,by omega,ha',hc'⟩
end Go.KB
