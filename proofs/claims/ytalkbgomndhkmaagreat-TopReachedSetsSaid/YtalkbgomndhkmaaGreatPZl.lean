/- Plain laws of chapter 7: loops, names, sets of names. Plain laws of chapter 7: searches, names, places of spaces and permits. Plain laws of chapter 7: CheckPlan. Plain laws of chapter 7: which plans are looked at. No condition. -/
import Derived.Test.YtalkbgomndhkmaaGreatPZa
import Derived.Test.YtalkbgomndhkmaaGreatGPure
namespace Go.KB
set_option linter.unusedVariables false
theorem Y0 {n:Int} (h0:-9223372036854775808≤n) (h1:n≤9223372036854775807):IntKind.i64.wrap n=n:=NH h0 h1
theorem dT {p:Prop} [Decidable p] (h:p):decide p=true:=decide_eq_true h
theorem dF {p:Prop} [Decidable p] (h:¬p):decide p=false:=decide_eq_false h
def dZ (e:Nat→Int):Nat→Nat→Int
 | 0,_=>0
 | k+1,i=>if e i=0 then dZ e k (i+1) else e i
theorem tX {e:Nat→Int}:∀ {k i:Nat},dZ e k i=0→∀ j,i≤j→j<i+k→e j=0:=by
 intro k
 induction k with
 | zero=>intro i _ j h1 h2;omega
 | succ k ih =>
  intro i h j h1 h2
  simp only [dZ] at h
  split at h
  ·rename_i h0
   rcases Nat.eq_or_lt_of_le h1 with rfl | h1
   ·exact h0
   ·exact ih h j h1 (by omega)
  ·rename_i h0;exact absurd h h0
theorem LD {e e':Nat→Int}:∀ {k i:Nat},(∀ j,i≤j→j<i+k→(∀ m,i≤m→m<j→e m=0)→e j=e' j)→dZ e k i=dZ e' k i:=by
 intro k
 induction k with
 | zero=>intro i _;rfl
 | succ k ih =>
  intro i h
  have h0:=h i (Nat.le_refl _) (by omega) (fun m h1 h2=>by omega)
  simp only [dZ]
  rw [← h0]
  by_cases hz:e i=0
  ·rw [if_pos hz,if_pos hz]
   refine ih fun j h1 h2 h3=>h j (by omega) (by omega) fun m hm1 hm2=>?_
   rcases Nat.eq_or_lt_of_le hm1 with rfl | hm1
   ·exact hz
   ·exact h3 m hm1 hm2
  ·rw [if_neg hz,if_neg hz]
def su {O:Type} (fin:O) (err:Int→O) (z:Int):O:=if z=0 then fin else err z
theorem EY {e:Nat→Int} {k i:Nat} (h:e i=0):dZ e (k+1) i=dZ e k (i+1):=by simp [dZ,h]
theorem JF {e:Nat→Int} {k i:Nat} (h:e i≠0):dZ e (k+1) i=e i:=by simp [dZ,h]
theorem wF {O:Type} {n N:Nat} {f:Int→Option (Int ⊕ O)} {e:Nat→Int} {fin:O} {err:Int→O} (hf:∀ i:Nat,i<n→(∀ j,j<i→e j=0)→f (i:Int)=if e i=0 then some (.inl ((i+1:Nat):Int)) else some (.inr (err (e i)))) (he:(∀ j,j<n→e j=0)→f (n:Int)=some (.inr fin)) (hN:n<N) :
  bW f N 0=some (su fin err (dZ e n 0)):=by
 have key:∀ k i,i+k=n→(∀ j,j<i→e j=0)→∀ M,k<M→bW f M (i:Int)=some (su fin err (dZ e k i)):=by
  intro k
  induction k with
  | zero =>
   intro i hi hz M hM
   obtain ⟨M,rfl⟩:∃ m,M=m+1:=⟨M - 1,by omega⟩
   have:i=n:=by omega
   subst this
   simp only [bW,he hz,dZ];rfl
  | succ k ih =>
   intro i hi hz M hM
   obtain ⟨M,rfl⟩:∃ m,M=m+1:=⟨M - 1,by omega⟩
   simp only [bW,hf i (by omega) hz]
   by_cases h0:e i=0
   ·rw [if_pos h0,EY h0]
    exact ih (i+1) (by omega) (fun j hj=>by
     rcases Nat.lt_succ_iff_lt_or_eq.1 hj with h | rfl
     ·exact hz j h
     ·exact h0) M (by omega)
   ·rw [if_neg h0,JF h0]
    unfold su
    rw [if_neg h0]
 exact key n 0 (by omega) (fun j hj=>absurd hj (Nat.not_lt_zero _)) N (by omega)
theorem Je {S O:Type} {n N:Nat} {f:S→Option (S ⊕ O)} {e:Nat→Int} {fin:O} {err:Int→O} (g:Nat→S) (hf:∀ i:Nat,i<n→(∀ j,j<i→e j=0)→f (g i)=if e i=0 then some (.inl (g (i+1))) else some (.inr (err (e i)))) (he:(∀ j,j<n→e j=0)→f (g n)=some (.inr fin)) (hN:n<N) :
  bW f N (g 0)=some (su fin err (dZ e n 0)):=by
 have key:∀ k i,i+k=n→(∀ j,j<i→e j=0)→∀ M,k<M→bW f M (g i)=some (su fin err (dZ e k i)):=by
  intro k
  induction k with
  | zero =>
   intro i hi hz M hM
   obtain ⟨M,rfl⟩:∃ m,M=m+1:=⟨M - 1,by omega⟩
   have:i=n:=by omega
   subst this
   simp only [bW,he hz,dZ];rfl
  | succ k ih =>
   intro i hi hz M hM
   obtain ⟨M,rfl⟩:∃ m,M=m+1:=⟨M - 1,by omega⟩
   simp only [bW,hf i (by omega) hz]
   by_cases h0:e i=0
   ·rw [if_pos h0,EY h0]
    exact ih (i+1) (by omega) (fun j hj=>by
     rcases Nat.lt_succ_iff_lt_or_eq.1 hj with h | rfl
     ·exact hz j h
     ·exact h0) M (by omega)
   ·rw [if_neg h0,JF h0]
    unfold su
    rw [if_neg h0]
 exact key n 0 (by omega) (fun j hj=>absurd hj (Nat.not_lt_zero _)) N (by omega)
theorem wC {α:Type} [Inhabited α] {l:List α} {i:Nat} (h:i<l.length):l[i]! = l[i]:=by simp [h]
theorem A7 {α:Type} [Inhabited α] {l:List α} {i:Nat} (h:i<l.length):idx l (i:Int)=some l[i]!:=by rw [iW h,wC h]
theorem Na {α:Type} {b:Bool} {x y:α}:(bif b then some x else some y)=some (bif b then x else y):=by cases b <;> rfl
theorem O0:∀ {k i:Nat},dZ (fun _=>0) k i=0:=by
 intro k
 induction k with
 | zero=>intro i;rfl
 | succ n ih=>intro i;rw [EY (e:=fun _=>0) rfl];exact ih
theorem Di {α β:Type} [DecidableEq α] (z:β) (x k:α) (y:β):∀ m:List (α×β),iw z (qc m x y) k=if k=x then y else iw z m k
 | []=>by
  by_cases h:k=x
  ·subst h;simp [iw,qc]
  ·simp [iw,qc,h]
 | p :: r=>by
  by_cases hp:x=p.1
  ·subst hp
   by_cases h:k=p.1
   ·subst h;simp [iw,qc]
   ·simp [iw,qc,h]
  ·by_cases h : k = p.1
   ·subst h;simp [iw,qc,hp,Ne.symm hp]
   ·simp [iw,qc,hp,h,Di z x k y r]
theorem rQ (a b:Str):Bq .eql a b=decide (a=b):=by
 unfold Bq
 rw [Bool.eq_iff_iff]
 simp
theorem QL (a b:Str):Bq .neq a b = !decide (a=b):=by
 rw [← rQ];rfl
def dup (nm:Nat→Str):Nat→Str→Bool
 | 0,_=>false
 | i+1,x=>decide (x=nm i)||dup nm i x
def seen (nm:Nat→Str):Nat→List (Str×Bool)
 | 0=>[]
 | i+1=>qc (seen nm i) (nm i) true
theorem Ih (nm:Nat→Str) (x:Str):∀ i,iw false (seen nm i) x=dup nm i x
 | 0=>rfl
 | i+1=>by
  simp only [seen,dup,Di,Ih nm x i]
  by_cases h:x=nm i <;> simp [h]
theorem O8 (nm:Nat→Str) (x:Str):∀ i,dup nm i x=true↔∃ j,j<i∧nm j=x
 | 0=>by simp [dup]
 | i+1=>by
  simp only [dup,Bool.or_eq_true,decide_eq_true_eq,O8 nm x i]
  constructor
  ·rintro (h | ⟨j,h1,h2⟩)
   ·exact ⟨i,by omega,h.symm⟩
   ·exact ⟨j,by omega,h2⟩
  ·rintro ⟨j,h1,h2⟩
   by_cases hj:j=i
   ·subst hj;exact .inl h2.symm
   ·exact .inr ⟨j,by omega,h2⟩
def same (nm:Nat→Str) (x:Str) (j:Nat):Int:=if nm j=x then 5 else 0
def XZ (x0:Str) (s1:Int):Option (Int ⊕ (Unit ⊕ Bool)) :=
 bif (aS .lss s1 (List.length x0:Int)) then ((idx x0 s1).bind fun v2=>bif ((!(((aS .geq ((UInt8.toNat v2:Nat):Int) 97)&&(aS .leq ((UInt8.toNat v2:Nat):Int) 122))||((aS .geq ((UInt8.toNat v2:Nat):Int) 65)&&(aS .leq ((UInt8.toNat v2:Nat):Int) 90))))&&((aS .eql s1 0)||((aS .neq ((UInt8.toNat v2:Nat):Int) 45)&&((aS .lss ((UInt8.toNat v2:Nat):Int) 48)||(aS .gtr ((UInt8.toNat v2:Nat):Int) 57))))) then (some (.inr (Sum.inr false))) else (some (.inl (IntKind.i64.wrap (s1+1))))) else (some (.inr (Sum.inl ())))
def Zv (N:Nat) (x0:Str):Option (Bool) :=
 bif ((aS .lss (List.length x0:Int) 1)||(aS .gtr (List.length x0:Int) 12)) then (some false) else ((bW (XZ x0) N 0).bind fun o5=>Sum.elim (fun l7=>some true) (fun r8=>some r8) o5)
theorem X0 {N:Nat} {s:Str} (hN:13≤N):Zv N s=some (kJ s):=by
  unfold Zv
  by_cases hlen:s.length<1∨12<s.length
  · have hc:(aS .lss (s.length:Int) 1||aS .gtr (s.length:Int) 12)=true:=by
      simp;omega
    rw [hc,lJ]
    congr 1
    unfold kJ
    rcases hlen with h | h
    · have : s = [] := List.eq_nil_of_length_eq_zero (by omega)
      subst this;rfl
    · cases s with
      | nil=>rfl
      | cons c r=>simp at h;simp;intro h';omega
  · have hc:(aS .lss (s.length:Int) 1||aS .gtr (s.length:Int) 12)=false:=by
      rw [Bool.or_eq_false_iff];simp;omega
    rw [hc,kC]
    cases s with
    | nil=>simp at hlen
    | cons c r =>
      have hr:r.length<12:=by simp at hlen;omega
      have hbad:∀ i (hi:i<(c :: r).length),((!(((aS .geq ((UInt8.toNat (c :: r)[i]:Nat):Int) 97)&&(aS .leq ((UInt8.toNat (c :: r)[i]:Nat):Int) 122))||((aS .geq ((UInt8.toNat (c :: r)[i]:Nat):Int) 65)&&(aS .leq ((UInt8.toNat (c :: r)[i]:Nat):Int) 90))))&&((aS .eql (i:Int) 0)||((aS .neq ((UInt8.toNat (c :: r)[i]:Nat):Int) 45)&&((aS .lss ((UInt8.toNat (c :: r)[i]:Nat):Int) 48)||(aS .gtr ((UInt8.toNat (c :: r)[i]:Nat):Int) 57))))) =
          !(if i=0 then xh (c :: r)[i] else tY (c :: r)[i]):=by
        intro i hi
        split
        · rename_i h0;subst h0
          simp only [pW,Int.natCast_zero,decide_true,Bool.true_or,Bool.and_true]
          rfl
        · rename_i h0
          rw [pW,show decide ((i:Int)=0)=false by rw [decide_eq_false_iff_not];omega,Bool.false_or]
          unfold tY xh Zd
          simp only [oz,bH,rY,xB,yx]
          generalize ((UInt8.toNat (c :: r)[i]:Nat):Int)=x
          rw [Bool.eq_iff_iff]
          simp only [Bool.and_eq_true,Bool.or_eq_true,Bool.not_eq_true',Bool.or_eq_false_iff,Bool.and_eq_false_iff,decide_eq_true_eq,decide_eq_false_iff_not]
          omega
      rw [QS (c :: r).length (if kJ (c :: r) then .inl () else .inr false) (fun i=>∀ j (h:j<(c :: r).length),j<i→(if j=0 then xh (c :: r)[j] else tY (c :: r)[j])=true) ?_ ?_ (fun j _ h=>absurd h (Nat.not_lt_zero _)) N (by simp;omega)]
      · cases kJ (c :: r) <;> rfl
      · intro i hi hp
        unfold XZ
        rw [bH,show decide ((i:Int)<((c :: r).length:Int))=true by rw [decide_eq_true_eq];omega,lJ,iW hi,bS,hbad i hi,oG (show i<9223372036854775807 by simp at hi;omega)]
        cases hg:(if i=0 then xh (c :: r)[i] else tY (c :: r)[i]) with
        | true =>
          refine .inl ⟨rfl,fun j hj hji=>?_⟩
          rcases Nat.lt_succ_iff_lt_or_eq.1 hji with h | rfl
          · exact hp j hj h
          · exact hg
        | false =>
          refine .inr ?_
          have:kJ (c :: r)=false:=by
            rw [Bool.eq_false_iff]
            intro h
            simp only [kJ,Bool.and_eq_true,decide_eq_true_eq] at h
            obtain ⟨⟨_,h1⟩,h2⟩:=h
            rw [List.all_eq_true] at h2
            cases i with
            | zero=>simp [h1] at hg
            | succ i =>
              simp at hg
              have:=h2 _ (List.getElem_mem (by simpa using hi:i<r.length))
              rw [this] at hg;cases hg
          rw [this];rfl
      · intro hp
        unfold XZ
        rw [bH,show decide ((((c :: r).length:Nat):Int)<((c :: r).length:Int))=false by simp,kC]
        have:kJ (c :: r)=true:=by
          simp only [kJ,Bool.and_eq_true,decide_eq_true_eq]
          refine ⟨⟨hr,(by have h:=hp 0 (by simp) (by simp);rw [if_pos rfl] at h;exact h)⟩,?_⟩
          rw [List.all_eq_true]
          intro x hx
          obtain ⟨j,hj,rfl⟩:=List.getElem_of_mem hx
          have:=hp (j+1) (by simp;omega) (by simp;omega)
          simpa using this
        rw [this];rfl
theorem NV {N:Nat} {s:Str} (hN:13≤N):wX N s=some (kJ s):=X0 hN
end Go.KB
namespace Go.KB
set_option linter.unusedVariables false
theorem LK {O:Type} {n N:Nat} {f:Int→Option (Int ⊕ O)} (R:Nat→O) (hf:∀ i:Nat,i<n→(f (i:Int)=some (.inl ((i+1:Nat):Int))∧R i=R (i+1))∨f (i:Int)=some (.inr (R i))) (he:f (n:Int)=some (.inr (R n))) (hN:n<N):bW f N 0=some (R 0):=by
 have key:∀ k i,i+k=n→∀ M,k<M→bW f M (i:Int)=some (R i):=by
  intro k
  induction k with
  | zero =>
   intro i hi M hM
   obtain ⟨M,rfl⟩:∃ m,M=m+1:=⟨M - 1,by omega⟩
   have:i=n:=by omega
   subst this
   simp only [bW,he]
  | succ k ih =>
   intro i hi M hM
   obtain ⟨M,rfl⟩:∃ m,M=m+1:=⟨M - 1,by omega⟩
   rcases hf i (by omega) with ⟨h1,h2⟩ | h1
   ·simp only [bW,h1];rw [h2];exact ih (i+1) (by omega) M (by omega)
   ·simp only [bW,h1]
 exact key n 0 (by omega) N (by omega)
theorem drop_at {α:Type} {l:List α} {i:Nat} (h:i<l.length):l.drop i=l[i] :: l.drop (i+1):=List.drop_eq_getElem_cons h
theorem X3 {α:Type} {l:List α} {N:Nat} {f:Int→Option (Int ⊕ (Unit ⊕ Bool))} {g:α→Bool} (hf:∀ (i:Nat) (h:i<l.length),f (i:Int)=bif g l[i] then some (.inl ((i+1:Nat):Int)) else some (.inr (.inr false))) (he:f (l.length:Int)=some (.inr (.inl ()))) (hN:l.length<N) :
  ((bW f N 0).bind fun o=>Sum.elim (fun _=>some true) (fun r=>some r) o)=some (l.all g):=by
 rw [LK (fun i=>bif (l.drop i).all g then .inl () else .inr false) (fun i hi=>?_) (by simp [he]) hN]
 ·simp only [List.drop_zero,bS];cases l.all g <;> rfl
 ·rw [hf i hi]
  simp only [drop_at hi,List.all_cons]
  cases g l[i]
  ·exact .inr rfl
  ·exact .inl ⟨rfl,by simp⟩
def I5 {α:Type} (g:α→Bool) (l:List α):Int:=if l.findIdx g<l.length then (l.findIdx g:Int) else -1
theorem wP {α:Type} {l:List α} {N:Nat} {f:Int→Option (Int ⊕ (Unit ⊕ Int))} {g:α→Bool} (hf:∀ (i:Nat) (h:i<l.length),f (i:Int)=bif g l[i] then some (.inr (.inr (i:Int))) else some (.inl ((i+1:Nat):Int))) (he:f (l.length:Int)=some (.inr (.inl ()))) (hN:l.length<N) :
  ((bW f N 0).bind fun o=>Sum.elim (fun _=>some (-1:Int)) (fun r=>some r) o)=some (I5 g l):=by
 rw [LK (fun i=>if (l.drop i).findIdx g<(l.drop i).length then .inr (((i+(l.drop i).findIdx g:Nat)):Int) else .inl ()) (fun i hi=>?_) (by simp [he]) hN]
 ·simp only [List.drop_zero,Nat.zero_add,bS,I5];split <;> rfl
 ·rw [hf i hi]
  simp only [drop_at hi,List.findIdx_cons]
  cases g l[i]
  ·refine .inl ⟨rfl,?_⟩
   simp only [kC,List.length_cons,Nat.add_lt_add_iff_right]
   split
   ·congr 2;omega
   ·rfl
  ·refine .inr ?_
   simp only [lJ,List.length_cons,Nat.zero_lt_succ,if_true,Nat.add_zero]
theorem BP {α:Type} {g:α→Bool} {l:List α} (h:l.findIdx g<l.length):I5 g l=(l.findIdx g:Int):=if_pos h
theorem D8 {α:Type} {g:α→Bool} {l:List α} (h:¬ l.findIdx g<l.length):I5 g l = -1:=if_neg h
theorem D7 {α:Type} {g:α→Bool} {l:List α}:decide (I5 g l<0) = !l.any g:=by
 have:l.any g=true↔l.findIdx g<l.length:=by
  rw [List.any_eq_true]
  exact List.findIdx_lt_length.symm
 by_cases h:l.findIdx g<l.length
 ·rw [BP h,this.2 h];simp
 ·rw [D8 h,Bool.eq_false_iff.2 (fun x=>h (this.1 x))];rfl
theorem Bf {N:Nat} {s:Str} (hN:13≤N):oh N s=some (kJ s):=by
  unfold oh
  by_cases hlen:s.length<1∨12<s.length
  · have hc : (aS .lss (s.length : Int) 1 || aS .gtr (s.length : Int) 12) = true := by simp; omega
    rw [hc]
    simp only [Bool.not_true,kC,bS,Bool.true_or,lJ]
    congr 1
    unfold kJ
    rcases hlen with h | h
    · have : s = [] := List.eq_nil_of_length_eq_zero (by omega)
      subst this;rfl
    · cases s with
      | nil=>rfl
      | cons c r=>simp at h;simp;intro h';omega
  · have hc : (aS .lss (s.length : Int) 1 || aS .gtr (s.length : Int) 12) = false := by rw [Bool.or_eq_false_iff]; simp; omega
    rw [hc]
    cases s with
    | nil=>simp at hlen
    | cons c r =>
      have hr:r.length<12:=by simp at hlen;omega
      have hl:∀ x:UInt8,vk N ((UInt8.toNat x:Nat):Int)=some (xh x):=fun x=>rfl
      have h0:idx (c :: r) 0=some c:=by have:=iW (xs:=c :: r) (i:=0) (by simp);simpa using this
      simp only [Bool.not_false,lJ,h0,bS,hl,Bool.false_or]
      cases hc:xh c with
      | false=>simp [kJ,hc]
      | true =>
        simp only [Bool.not_true,kC]
        have h1:∀ (i:Nat) (hi:i<(c :: r).length),qE N (c :: r) (i:Int)=bif tY (c :: r)[i] then some (.inl ((i+1:Nat):Int)) else some (.inr (.inr false)):=by
          intro i hi
          unfold qE
          rw [bH,dT (by omega),lJ,iW hi,bS,hl,bS,oG (show i<9223372036854775807 by simp at hi;omega)]
          have:((!xh (c :: r)[i]&&aS .neq ((UInt8.toNat (c :: r)[i]:Nat):Int) 45)&&(aS .lss ((UInt8.toNat (c :: r)[i]:Nat):Int) 48||aS .gtr ((UInt8.toNat (c :: r)[i]:Nat):Int) 57)) = !tY (c :: r)[i]:=by
            unfold tY Zd
            cases xh (c :: r)[i]
            · simp only [Bool.not_false,Bool.true_and,Bool.false_or,oz,bH,rY]
              generalize ((UInt8.toNat (c :: r)[i]:Nat):Int)=x
              rw [Bool.eq_iff_iff]
              simp only [Bool.and_eq_true,Bool.or_eq_true,Bool.not_eq_true',Bool.or_eq_false_iff,Bool.and_eq_false_iff,decide_eq_true_eq,decide_eq_false_iff_not]
              omega
            · simp
          rw [this]
          cases tY (c :: r)[i] <;> rfl
        have h2:qE N (c :: r) ((c :: r).length:Int)=some (.inr (.inl ())):=by
          unfold qE
          rw [bH,dF (by omega),kC]
        rw [X3 h1 h2 (by simp;omega)]
        simp [kJ,hc,tY,hr]
instance:Inhabited dh:=⟨⟨[],false,[]⟩⟩
instance:Inhabited aA:=⟨⟨[],0,[],0,0,[]⟩⟩
instance:Inhabited bJ:=⟨⟨0,0,0⟩⟩
def isS (s:Str) (y:dh):Bool:=decide (y.Name=s)
def FW (s:Str) (y:aA):Bool:=decide (y.Name=s)
theorem Vx {N:Nat} {l:List dh} {f:dh→Option Bool} {g:dh→Bool} (hf:∀ y,f y=some (g y)) (hl:l.length<1000000) (hN:1000000≤N):jl N l f=some (I5 g l):=by
 unfold jl
 refine wP (fun i hi=>?_) ?_ (by omega)
 ·unfold iZ
  rw [bH,dT (by omega),lJ,iW hi,bS,hf,bS,oG (by omega)]
 ·unfold iZ
  rw [bH,dF (by omega),kC]
theorem NT {N:Nat} {l:List aA} {f:aA→Option Bool} {g:aA→Bool} (hf:∀ y,f y=some (g y)) (hl:l.length<1000000) (hN:1000000≤N):gX N l f=some (I5 g l):=by
 unfold gX
 refine wP (fun i hi=>?_) ?_ (by omega)
 ·unfold iL
  rw [bH,dT (by omega),lJ,iW hi,bS,hf,bS,oG (by omega)]
 ·unfold iL
  rw [bH,dF (by omega),kC]
theorem Ji {N:Nat} {p:GPermitPlan} {s:Str} (hl:p.bF.length<1000000) (hN:1000000≤N):tK N p s=some (I5 (isS s) p.bF):=by
 unfold tK
 refine wP (fun i hi=>?_) ?_ (by omega)
 ·unfold uJ
  rw [bH,dT (by omega),lJ,iW hi,bS,rQ,oG (by omega)];rfl
 ·unfold uJ
  rw [bH,dF (by omega),kC]
theorem Gv {N:Nat} {p:GPermitPlan} {s:Str} (hl:p.ai.length<1000000) (hN:1000000≤N):qJ N p s=some (I5 (FW s) p.ai):=by
 unfold qJ
 refine wP (fun i hi=>?_) ?_ (by omega)
 ·unfold sS
  rw [bH,dT (by omega),lJ,iW hi,bS,rQ,oG (by omega)];rfl
 ·unfold sS
  rw [bH,dF (by omega),kC]
def yu {α:Type} (z:α) (g:α→Bool) (l:List α):α×Bool:=match l.find? g with | some y=>(y,true) | none=>(z,false)
theorem O9 {α:Type} {g:α→Bool}:∀ {l:List α},(l.findIdx g<l.length∧∃ h:l.findIdx g<l.length,l.find? g=some l[l.findIdx g])∨(¬ l.findIdx g<l.length∧l.find? g=none):=by
 intro l
 by_cases h:l.findIdx g<l.length
 ·refine .inl ⟨h,h,?_⟩
  exact (List.find?_eq_getElem?_findIdx ..).trans (List.getElem?_eq_getElem h)
 ·refine .inr ⟨h,?_⟩
  rw [List.find?_eq_getElem?_findIdx,List.getElem?_eq_none (by omega)]
theorem xI {N:Nat} {p:GPermitPlan} {s:Str} (hl:p.bF.length<1000000) (hN:1000000≤N):je N p s=some (yu ⟨[],false,[]⟩ (isS s) p.bF):=by
 unfold je
 rw [Vx (g:=isS s) (fun y=>by unfold rO;rw [rQ];rfl) hl hN,bS,bH]
 unfold yu
 rcases O9 (g:=isS s) (l:=p.bF) with ⟨_,h,h2⟩ | ⟨h,h2⟩
 ·rw [h2,BP h,dF (by omega),kC,iW h];rfl
 ·rw [h2,D8 h];rfl
theorem zq {N:Nat} {p:GPermitPlan} {s:Str} (hl:p.ai.length<1000000) (hN:1000000≤N):jT N p s=some (yu ⟨[],0,[],0,0,[]⟩ (FW s) p.ai):=by
 unfold jT
 rw [NT (g:=FW s) (fun y=>by unfold qX;rw [rQ];rfl) hl hN,bS,bH]
 unfold yu
 rcases O9 (g:=FW s) (l:=p.ai) with ⟨_,h,h2⟩ | ⟨h,h2⟩
 ·rw [h2,BP h,dF (by omega),kC,iW h];rfl
 ·rw [h2,D8 h];rfl
theorem Dh {α:Type} {z:α} {g:α→Bool} {l:List α}:(yu z g l).2=l.any g:=by
 unfold yu
 cases h:l.find? g with
 | none=>simp only [];rw [eq_comm,Bool.eq_false_iff];intro hx;rw [List.any_eq_true] at hx;obtain ⟨x,hx,hg⟩:=hx;exact absurd hg (by simpa using List.find?_eq_none.1 h x hx)
 | some y=>simp only [];rw [eq_comm,List.any_eq_true];exact ⟨y,List.mem_of_find?_eq_some h,List.find?_some h⟩
end Go.KB
namespace Go.KB
set_option linter.unusedVariables false
def EX (a b:Int):Int:=if a=0 then b else a
def yw (k:Int):Bool:=decide (0≤k)&&decide (k≤5)
def Il (p:GPermitPlan) (i:Nat):Str:=p.bF[i]!.Name
def Eu (p:GPermitPlan) (i:Nat):Str:=p.ai[i]!.Name
def xg (p:GPermitPlan) (s:Str):Bool:=p.bF.any (isS s)
def iU (p:GPermitPlan) (s:Str):Bool:=p.ai.any (FW s)
def nR (p:GPermitPlan) (s:Str):aA:=(yu ⟨[],0,[],0,0,[]⟩ (FW s) p.ai).1
def yA (p:GPermitPlan) (s:Str):dh:=(yu ⟨[],false,[]⟩ (isS s) p.bF).1
def VL (p:GPermitPlan) (i:Nat):Int:=if kJ (Il p i)=false then 4 else if dup (Il p) i (Il p i)=true then 5 else if 30<p.bF[i]!.Next.length then 8 else 0
def eNx (p:GPermitPlan) (y:dh) (j:Nat):Int:=if xg p y.Next[j]! = false then 6 else if y.Next[j]! = y.Name then 3 else 0
def JL (p:GPermitPlan) (i:Nat):Int:=dZ (eNx p p.bF[i]!) p.bF[i]!.Next.length 0
def eEx (p:GPermitPlan) (i:Nat):Int:=if yw p.cZ[i]!.A=false∨yw p.cZ[i]!.B=false∨p.cZ[i]!.Reach<0∨2<p.cZ[i]!.Reach then 2 else 0
def Yn (p:GPermitPlan) (i:Nat):Int:=if kJ (Eu p i)=false then 4 else if dup (Eu p) i (Eu p i)=true then 5 else
 if yw p.ai[i]!.Kind=false∨p.ai[i]!.From<0∨p.ai[i]!.To≤p.ai[i]!.From∨1000000<p.ai[i]!.To then 2 else if xg p p.ai[i]!.Space=false then 6 else if 10<p.ai[i]!.Locks.length then 8 else 0
def eLk (p:GPermitPlan) (y:aA) (j:Nat):Int:=if iU p y.Locks[j]! = false then 6 else if (nR p y.Locks[j]!).Kind≠5∨y.Kind=5 then 3 else 0
def MZ (p:GPermitPlan) (i:Nat):Int:=dZ (eLk p p.ai[i]!) p.ai[i]!.Locks.length 0
def lV (p:GPermitPlan):Int:=if 30<p.bF.length∨30<p.cZ.length∨20<p.ai.length then 8 else if p.dw<1∨10000<p.dw then 2 else
 EX (EX (dZ (VL p) p.bF.length 0) (dZ (JL p) p.bF.length 0)) (EX (dZ (eEx p) p.cZ.length 0) (EX (dZ (Yn p) p.ai.length 0) (dZ (MZ p) p.ai.length 0)))
structure Eh (p:GPermitPlan):Prop where
 s:p.bF.length<1000
 x:p.cZ.length<1000
 m:p.ai.length<1000
 n:∀ y ∈ p.bF,y.Next.length<1000
 l:∀ y ∈ p.ai,y.Locks.length<1000
theorem Be {α:Type} [Inhabited α] {l:List α} {i:Nat} (h:i<l.length):l[i]! ∈ l:=by rw [wC h];exact List.getElem_mem h
theorem tZ {A:Type} {fin:A} {E:Int} {K:A→Option Int}:((some (su (Sum.inl fin) (fun e=>Sum.inr e) E):Option (A ⊕ Int)).bind fun o=>Sum.elim (fun l=>K l) (fun r=>some r) o)=if E=0 then K fin else some E:=by
 unfold su
 by_cases h:E=0
 ·rw [if_pos h,if_pos h];rfl
 ·rw [if_neg h,if_neg h];rfl
theorem Tf {α:Type} [Inhabited α] {nm:α→Str} {x:Str} {l:List α} {i:Nat} (hi:i≤l.length):dup (fun j=>nm l[j]!) i x=(decide (0≤I5 (fun y=>decide (nm y=x)) l)&&decide (I5 (fun y=>decide (nm y=x)) l<(i:Int))):=by
 rw [Bool.eq_iff_iff,O8,Bool.and_eq_true,decide_eq_true_eq,decide_eq_true_eq]
 constructor
 ·rintro ⟨j,hj,hx⟩
  have hjl:j<l.length:=by omega
  rw [wC hjl] at hx
  have hle:l.findIdx (fun y=>decide (nm y=x))≤j:=by
   rcases Nat.lt_or_ge j (l.findIdx (fun y=>decide (nm y=x))) with h | h
   ·exact absurd (List.not_of_lt_findIdx h) (by simp [hx])
   ·exact h
  rw [BP (by omega)]
  omega
 ·rintro ⟨h1,h2⟩
  by_cases h:l.findIdx (fun y=>decide (nm y=x))<l.length
  ·rw [BP h] at h2
   refine ⟨l.findIdx (fun y=>decide (nm y=x)),by omega,?_⟩
   show nm l[l.findIdx (fun y=>decide (nm y=x))]! = x
   rw [wC h]
   have:=List.findIdx_getElem (xs:=l) (p:=fun y=>decide (nm y=x)) (w:=h)
   simpa using this
  ·rw [D8 h] at h1;omega
theorem Ze {α:Type} [Inhabited α] {nm:α→Str} {x:Str} {l:List α}:dup (fun j=>nm l[j]!) l.length x=l.any (fun y=>decide (nm y=x)):=by
 rw [Tf (Nat.le_refl _)]
 have:=D7 (g:=fun y=>decide (nm y=x)) (l:=l)
 by_cases h:l.findIdx (fun y=>decide (nm y=x))<l.length
 ·rw [BP h] at this ⊢
  rw [dF (by omega)] at this
  rw [dT (by omega),dT (by omega)]
  cases hx:l.any (fun y=>decide (nm y=x)) with
  | true=>rfl
  | false=>rw [hx] at this;cases this
 ·rw [D8 h] at this ⊢
  cases hx:l.any (fun y=>decide (nm y=x)) with
  | false=>rfl
  | true=>rw [hx] at this;cases this
theorem Ut {N:Nat} {k:Int}:vI N k=some (yw k):=rfl
theorem X4 {N:Nat} {k:Int}:wK N k=some (yw k):=rfl
section
variable {N:Nat} {p:GPermitPlan} (hp:Eh p) (hN:1000000≤N)
include hp hN
theorem cs3:bW (mF N p) N (([]:List (Str×Bool)),0)=some (su (.inl (seen (Il p) p.bF.length)) (fun e=>.inr e) (dZ (VL p) p.bF.length 0)):=by
 have hs:=hp.s
 refine Je (fun i=>(seen (Il p) i,(i:Int))) (fun i hi _=>?_) (fun _=>?_) (by omega)
 ·unfold mF VL
  simp only []
  rw [bH,dT (by omega),lJ,A7 hi,bS,Bf (by omega),bS,Ih,oG (by omega),rY]
  show (bif !kJ (Il p i) then _ else bif dup (Il p) i (Il p i) then _ else _)=_
  cases kJ (Il p i) with
  | false=>rfl
  | true =>
   cases dup (Il p) i (Il p i) with
   | true=>rfl
   | false =>
    by_cases h:30<p.bF[i]!.Next.length
    ·rw [dT (show (30:Int)<(p.bF[i]!.Next.length:Int) by omega),if_pos h];rfl
    ·rw [dF (show ¬ (30:Int)<(p.bF[i]!.Next.length:Int) by omega),if_neg h];rfl
 ·unfold mF
  simp only []
  rw [bH,dF (by omega),kC]
theorem cs1 {y:dh} (hy:y ∈ p.bF):bW (mJ N (seen (Il p) p.bF.length) y) N 0=some (su (.inl ()) (fun e=>.inr e) (dZ (eNx p y) y.Next.length 0)):=by
 have hl:=hp.n y hy
 refine wF (fun i hi _=>?_) (fun _=>?_) (by omega)
 ·unfold mJ eNx
  rw [bH,dT (by omega),lJ,A7 hi,bS,Ih,show dup (Il p) p.bF.length y.Next[i]! = xg p y.Next[i]! from Ze,oG (by omega),rQ]
  cases xg p y.Next[i]! with
  | false=>rfl
  | true =>
   by_cases h:y.Next[i]! = y.Name
   ·rw [dT h,if_pos h];rfl
   ·rw [dF h,if_neg h];rfl
 ·unfold mJ
  rw [bH,dF (by omega),kC]
theorem cs2:bW (mG N p (seen (Il p) p.bF.length)) N 0=some (su (.inl ()) (fun e=>.inr e) (dZ (JL p) p.bF.length 0)):=by
 have hs:=hp.s
 refine wF (fun i hi _=>?_) (fun _=>?_) (by omega)
 ·unfold mG
  rw [bH,dT (by omega),lJ,A7 hi,bS,cs1 hp hN (Be hi),oG (by omega),bS]
  show Sum.elim _ _ (su _ _ (JL p i))=_
  unfold su
  by_cases h:JL p i=0
  ·rw [if_pos h,if_pos h];rfl
  ·rw [if_neg h,if_neg h];rfl
 ·unfold mG
  rw [bH,dF (by omega),kC]
theorem L9:qK N p=some (EX (dZ (VL p) p.bF.length 0) (dZ (JL p) p.bF.length 0)):=by
 unfold qK
 rw [cs3 hp hN,tZ,cs2 hp hN,tZ]
 unfold EX
 split
 ·split
  ·rename_i h;rw [h]
  ·rfl
 ·rfl
theorem rcs3:bW (ng N p) N 0=some (su (.inl ()) (fun e=>.inr e) (dZ (VL p) p.bF.length 0)):=by
 have hs:=hp.s
 refine wF (fun i hi _=>?_) (fun _=>?_) (by omega)
 ·unfold ng VL
  rw [bH,dT (by omega),lJ,A7 hi,bS,NV (by omega),bS]
  have hd:uK N p (i:Int) (Il p i)=some (dup (Il p) i (Il p i)):=by
   unfold uK
   rw [Ji (by omega) hN,bS,xB,bH]
   exact congrArg some (Tf (nm:=dh.Name) (x:=Il p i) (l:=p.bF) (Nat.le_of_lt hi)).symm
  rw [bS,show uK N p (i:Int) p.bF[i]!.Name=_ from hd,bS,bS,oG (by omega),rY]
  show (bif !kJ (Il p i) then _ else bif dup (Il p) i (Il p i) then _ else _)=_
  cases kJ (Il p i) with
  | false=>rfl
  | true =>
   cases dup (Il p) i (Il p i) with
   | true=>rfl
   | false =>
    by_cases h:30<p.bF[i]!.Next.length
    ·rw [dT (show (30:Int)<(p.bF[i]!.Next.length:Int) by omega),if_pos h];rfl
    ·rw [dF (show ¬ (30:Int)<(p.bF[i]!.Next.length:Int) by omega),if_neg h];rfl
 ·unfold ng
  rw [bH,dF (by omega),kC]
theorem rcs1 {i:Nat} (hi:i<p.bF.length):bW (ny N p (i:Int)) N 0=some (su (.inl ()) (fun e=>.inr e) (JL p i)):=by
 have hl:=hp.n _ (Be hi)
 have hs:=hp.s
 refine wF (fun j hj _=>?_) (fun _=>?_) (by omega)
 ·unfold ny eNx
  rw [A7 hi,bS,bH,dT (by omega),lJ,bS,A7 hj,bS,Ji (by omega) hN,bS,bH,D7,bS,A7 hj,bS,bS,oG (by omega),rQ]
  show (bif !xg p _ then _ else _)=_
  cases xg p p.bF[i]!.Next[j]! with
  | false=>rfl
  | true =>
   by_cases h:p.bF[i]!.Next[j]! = p.bF[i]!.Name
   ·rw [dT h,if_pos h];rfl
   ·rw [dF h,if_neg h];rfl
 ·unfold ny
  rw [A7 hi,bS,bH,dF (by omega),kC]
theorem rcs2:bW (ni N p) N 0=some (su (.inl ()) (fun e=>.inr e) (dZ (JL p) p.bF.length 0)):=by
 have hs:=hp.s
 refine wF (fun i hi _=>?_) (fun _=>?_) (by omega)
 ·unfold ni
  rw [bH,dT (by omega),lJ,rcs1 hp hN hi,oG (by omega),bS]
  unfold su
  by_cases h:JL p i=0
  ·rw [if_pos h,if_pos h];rfl
  ·rw [if_neg h,if_neg h];rfl
 ·unfold ni
  rw [bH,dF (by omega),kC]
theorem JM:qW N p=some (EX (dZ (VL p) p.bF.length 0) (dZ (JL p) p.bF.length 0)):=by
 unfold qW
 rw [rcs3 hp hN,tZ,rcs2 hp hN,tZ]
 unfold EX
 split
 ·split
  ·rename_i h;rw [h]
  ·rfl
 ·rfl
omit hp hN in
theorem ex_eq {a b:Bool} {r:Int}:((((!a)||(!(bif !(!a) then b else false)))||(aS .lss r 0))||(aS .gtr r 2))=decide (a=false∨b=false∨r<0∨2<r):=by
 rw [Bool.eq_iff_iff,bH,rY]
 cases a <;> cases b <;> simp
omit hN in
theorem exL (hN2:p.cZ.length<N):bW (nU N p) N 0=some (su (.inl ()) (fun e=>.inr e) (dZ (eEx p) p.cZ.length 0)):=by
 have hs:=hp.x
 refine wF (fun i hi _=>?_) (fun _=>?_) hN2
 ·unfold nU eEx
  simp only [Ut]
  rw [bH,dT (by omega),lJ,A7 hi,bS,bS,Na,bS,oG (by omega),ex_eq]
  by_cases h:yw p.cZ[i]!.A=false∨yw p.cZ[i]!.B=false∨p.cZ[i]!.Reach<0∨2<p.cZ[i]!.Reach
  ·rw [dT h,if_pos h];rfl
  ·rw [dF h,if_neg h];rfl
 ·unfold nU
  rw [bH,dF (by omega),kC]
omit hN in
theorem rexL (hN2:p.cZ.length<N):bW (sV N p) N 0=some (su (.inl ()) (fun e=>.inr e) (dZ (eEx p) p.cZ.length 0)):=exL hp hN2
omit hp hN in
theorem Zw {a:Bool} {x y:Int}:((((!a)||(aS .lss x 0))||(aS .geq x y))||(aS .gtr y 1000000))=decide (a=false∨x<0∨y≤x∨1000000<y):=by
 rw [Bool.eq_iff_iff,bH,rY,xB]
 cases a <;> simp [or_assoc]
theorem pm3:bW (lQ N p) N (([]:List (Str×Bool)),0)=some (su (.inl ()) (fun e=>.inr e) (dZ (Yn p) p.ai.length 0)):=by
 have hs:=hp.s
 have hm:=hp.m
 refine Je (fun i=>(seen (Eu p) i,(i:Int))) (fun i hi _=>?_) (fun _=>?_) (by omega)
 ·unfold lQ Yn
  simp only []
  rw [bH,dT (by omega),lJ,A7 hi,bS,xI (by omega) hN,bS,Bf (by omega),bS,Ih,oG (by omega),Ut,bS,Zw,Dh,rY]
  show (bif !kJ (Eu p i) then _ else bif dup (Eu p) i (Eu p i) then _ else bif _ then _ else bif !xg p p.ai[i]!.Space then _ else _)=_
  cases kJ (Eu p i) with
  | false=>rfl
  | true =>
   cases dup (Eu p) i (Eu p i) with
   | true=>rfl
   | false =>
    by_cases h:yw p.ai[i]!.Kind=false∨p.ai[i]!.From<0∨p.ai[i]!.To≤p.ai[i]!.From∨1000000<p.ai[i]!.To
    ·rw [dT h,if_pos h];rfl
    ·rw [dF h,if_neg h]
     cases xg p p.ai[i]!.Space with
     | false=>rfl
     | true =>
      by_cases h:10<p.ai[i]!.Locks.length
      ·rw [dT (show (10:Int)<(p.ai[i]!.Locks.length:Int) by omega),if_pos h];rfl
      ·rw [dF (show ¬ (10:Int)<(p.ai[i]!.Locks.length:Int) by omega),if_neg h];rfl
 ·unfold lQ
  simp only []
  rw [bH,dF (by omega),kC]
theorem rpm3:bW (oQ N p) N 0=some (su (.inl ()) (fun e=>.inr e) (dZ (Yn p) p.ai.length 0)):=by
 have hs:=hp.s
 have hm:=hp.m
 refine wF (fun i hi _=>?_) (fun _=>?_) (by omega)
 ·unfold oQ Yn
  have hd:aS .lss (I5 (FW p.ai[i]!.Name) p.ai) (i:Int)=dup (Eu p) i (Eu p i):=by
   have h1:=Tf (nm:=aA.Name) (x:=Eu p i) (l:=p.ai) (Nat.le_of_lt hi)
   have h2:(0:Int)≤I5 (FW p.ai[i]!.Name) p.ai:=by
    have:=D7 (g:=FW p.ai[i]!.Name) (l:=p.ai)
    have h3:p.ai.any (FW p.ai[i]!.Name)=true:=List.any_eq_true.2 ⟨_,Be hi,by simp [FW]⟩
    rw [h3] at this
    simpa using this
   rw [bH]
   show _=dup (fun j=>p.ai[j]!.Name) i (Eu p i)
   rw [h1]
   show _=(decide ((0:Int)≤I5 (FW p.ai[i]!.Name) p.ai)&&decide (I5 (FW p.ai[i]!.Name) p.ai<(i:Int)))
   rw [dT h2,Bool.true_and]
  rw [bH,dT (by omega),lJ,A7 hi,bS,NV (by omega),bS,Gv (by omega) hN,bS,hd,X4,bS,Zw,Ji (by omega) hN,bS,bH,D7,rY,oG (by omega)]
  show (bif !kJ (Eu p i) then _ else bif dup (Eu p) i (Eu p i) then _ else bif _ then _ else bif !xg p p.ai[i]!.Space then _ else _)=_
  cases kJ (Eu p i) with
  | false=>rfl
  | true =>
   cases dup (Eu p) i (Eu p i) with
   | true=>rfl
   | false =>
    by_cases h:yw p.ai[i]!.Kind=false∨p.ai[i]!.From<0∨p.ai[i]!.To≤p.ai[i]!.From∨1000000<p.ai[i]!.To
    ·rw [dT h,if_pos h];rfl
    ·rw [dF h,if_neg h]
     cases xg p p.ai[i]!.Space with
     | false=>rfl
     | true =>
      by_cases h:10<p.ai[i]!.Locks.length
      ·rw [dT (show (10:Int)<(p.ai[i]!.Locks.length:Int) by omega),if_pos h];rfl
      ·rw [dF (show ¬ (10:Int)<(p.ai[i]!.Locks.length:Int) by omega),if_neg h];rfl
 ·unfold oQ
  rw [bH,dF (by omega),kC]
omit hp hN in
theorem Zx {a b:Int}:((aS .neq a 5)||(aS .eql b 5))=decide (a≠5∨b=5):=by
 rw [Bool.eq_iff_iff,oz,pW];simp
theorem lk1 {y:aA} (hy:y ∈ p.ai):bW (lU N p y) N 0=some (su (.inl ()) (fun e=>.inr e) (dZ (eLk p y) y.Locks.length 0)):=by
 have hm:=hp.m
 have hl:=hp.l y hy
 refine wF (fun i hi _=>?_) (fun _=>?_) (by omega)
 ·unfold lU eLk
  rw [bH,dT (by omega),lJ,A7 hi,bS,zq (by omega) hN,bS,Dh,Zx,oG (by omega)]
  show (bif !iU p y.Locks[i]! then _ else bif decide ((nR p y.Locks[i]!).Kind≠5∨y.Kind=5) then _ else _)=_
  cases iU p y.Locks[i]! with
  | false=>rfl
  | true =>
   by_cases h:(nR p y.Locks[i]!).Kind≠5∨y.Kind=5
   ·rw [dT h,if_pos h];rfl
   ·rw [dF h,if_neg h];rfl
 ·unfold lU
  rw [bH,dF (by omega),kC]
theorem lk2:bW (lT N p) N 0=some (su (.inl ()) (fun e=>.inr e) (dZ (MZ p) p.ai.length 0)):=by
 have hm:=hp.m
 refine wF (fun i hi _=>?_) (fun _=>?_) (by omega)
 ·unfold lT
  rw [bH,dT (by omega),lJ,A7 hi,bS,lk1 hp hN (Be hi),oG (by omega),bS]
  show Sum.elim _ _ (su _ _ (MZ p i))=_
  unfold su
  by_cases h:MZ p i=0
  ·rw [if_pos h,if_pos h];rfl
  ·rw [if_neg h,if_neg h];rfl
 ·unfold lT
  rw [bH,dF (by omega),kC]
theorem rlk1 {y:aA} (hy:y ∈ p.ai):bW (oV N p y) N 0=some (su (.inl ()) (fun e=>.inr e) (dZ (eLk p y) y.Locks.length 0)):=by
 have hm:=hp.m
 have hl:=hp.l y hy
 refine wF (fun i hi _=>?_) (fun _=>?_) (by omega)
 ·unfold oV eLk
  rw [bH,dT (by omega),lJ,A7 hi,bS,Gv (by omega) hN,bS,bH,D7,oG (by omega)]
  show (bif !iU p y.Locks[i]! then _ else _)=_
  cases hx:iU p y.Locks[i]! with
  | false=>rfl
  | true =>
   rw [Bool.not_true,kC]
   have hg:idx p.ai (I5 (FW y.Locks[i]!) p.ai)=some (nR p y.Locks[i]!):=by
    unfold nR yu
    rcases O9 (g:=FW y.Locks[i]!) (l:=p.ai) with ⟨_,h,h2⟩ | ⟨h,h2⟩
    ·rw [h2,BP h,iW h]
    ·have:=D7 (g:=FW y.Locks[i]!) (l:=p.ai)
     rw [show p.ai.any (FW y.Locks[i]!)=true from hx,D8 h] at this
     cases this
   rw [hg,bS,Zx]
   by_cases h:(nR p y.Locks[i]!).Kind≠5∨y.Kind=5
   ·rw [dT h,if_pos h];rfl
   ·rw [dF h,if_neg h];rfl
 ·unfold oV
  rw [bH,dF (by omega),kC]
theorem rlk2:bW (oU N p) N 0=some (su (.inl ()) (fun e=>.inr e) (dZ (MZ p) p.ai.length 0)):=by
 have hm:=hp.m
 refine wF (fun i hi _=>?_) (fun _=>?_) (by omega)
 ·unfold oU
  rw [bH,dT (by omega),lJ,A7 hi,bS,rlk1 hp hN (Be hi),oG (by omega),bS]
  show Sum.elim _ _ (su _ _ (MZ p i))=_
  unfold su
  by_cases h:MZ p i=0
  ·rw [if_pos h,if_pos h];rfl
  ·rw [if_neg h,if_neg h];rfl
 ·unfold oU
  rw [bH,dF (by omega),kC]
theorem JO:qw N p=some (EX (dZ (Yn p) p.ai.length 0) (dZ (MZ p) p.ai.length 0)):=by
 unfold qw
 rw [pm3 hp hN,tZ,lk2 hp hN,tZ]
 unfold EX
 split
 ·split
  ·rename_i h;rw [h]
  ·rfl
 ·rfl
omit hp hN in
theorem X5:(((aS .gtr (List.length p.bF:Int) 30)||(aS .gtr (List.length p.cZ:Int) 30))||(aS .gtr (List.length p.ai:Int) 20))=decide (30<p.bF.length∨30<p.cZ.length∨20<p.ai.length):=by
 rw [Bool.eq_iff_iff];simp only [rY,Bool.or_eq_true,decide_eq_true_eq];omega
omit hp hN in
theorem X6 {g:Int}:((aS .lss g 1)||(aS .gtr g 10000))=decide (g<1∨10000<g):=by
 rw [Bool.eq_iff_iff];simp
theorem DZ:mV N p=some (lV p):=by
  have hx:=hp.x
  unfold mV lV
  rw [X5,X6]
  by_cases h:30<p.bF.length∨30<p.cZ.length∨20<p.ai.length
  · rw [dT h,if_pos h];rfl
  · rw [dF h,if_neg h,kC]
    by_cases h:p.dw<1∨10000<p.dw
    · rw [dT h,if_pos h];rfl
    · rw [dF h,if_neg h,kC,L9 hp hN,bS,oz]
      generalize EX (dZ (VL p) p.bF.length 0) (dZ (JL p) p.bF.length 0)=E
      unfold EX
      by_cases h:E=0
      · rw [dT h, if_pos h, Bool.not_true, kC, exL hp (by omega), tZ, JO hp hN]
        unfold EX
        split
        · rfl
        · rfl
      · rw [dF h,if_neg h];rfl
theorem Nb:sU N p=some (lV p):=by
  have hx:=hp.x
  unfold sU lV
  rw [X5,X6]
  by_cases h:30<p.bF.length∨30<p.cZ.length∨20<p.ai.length
  · rw [dT h,if_pos h];rfl
  · rw [dF h,if_neg h,kC]
    by_cases h:p.dw<1∨10000<p.dw
    · rw [dT h,if_pos h];rfl
    · rw [dF h,if_neg h,kC,JM hp hN,bS,oz]
      generalize EX (dZ (VL p) p.bF.length 0) (dZ (JL p) p.bF.length 0)=E
      unfold EX
      by_cases h:E=0
      · rw [dT h, if_pos h, Bool.not_true, kC, rexL hp (by omega), tZ, rpm3 hp hN, tZ, rlk2 hp hN, tZ]
        split
        · split
          · split
            · rename_i h1 h2 h3;rw [h3]
            · rfl
          · rfl
        · rfl
      · rw [dF h,if_neg h];rfl
end
end Go.KB
namespace Go.KB
set_option linter.unusedVariables false
theorem X7 {N:Nat} (p:GPermitPlan) (hN:1000000≤N):vH N p=some true∨(vH N p=some false∧Eh p∧p.bF.length≤40∧p.cZ.length≤40∧p.ai.length≤30∧(∀ y ∈ p.bF,y.Next.length≤40∧y.Name.length≤40)∧∀ y ∈ p.ai,y.Locks.length≤20∧y.Name.length≤40):=by
  unfold vH
  have hb:(((aS .gtr (List.length p.bF:Int) 40)||(aS .gtr (List.length p.cZ:Int) 40))||(aS .gtr (List.length p.ai:Int) 30))=decide (40<p.bF.length∨40<p.cZ.length∨30<p.ai.length):=by
    rw [Bool.eq_iff_iff];simp only [rY,Bool.or_eq_true,decide_eq_true_eq];omega
  rw [hb]
  by_cases h:40<p.bF.length∨40<p.cZ.length∨30<p.ai.length
  · rw [dT h];exact .inl rfl
  rw [dF h,kC]
  have hs:∀ (i:Nat) (hi:i<p.bF.length),oO N p (i:Int)=bif (decide (40<p.bF[i].Next.length)||decide (40<p.bF[i].Name.length)) then some (.inr (.inr true)) else some (.inl ((i+1:Nat):Int)):=by
    intro i hi
    unfold oO
    rw [bH,dT (by omega),lJ,iW hi,bS,oG (by omega)]
    simp only [rY]
    by_cases h1:40<p.bF[i].Next.length
    · rw [dT h1,dT (show (40:Int)<(p.bF[i].Next.length:Int) by omega)];rfl
    · rw [dF h1, dF (show ¬ (40 : Int) < (p.bF[i].Next.length : Int) by omega), Bool.not_false, lJ, bS, Bool.false_or, Bool.false_or]
      by_cases h2:40<p.bF[i].Name.length
      · rw [dT h2,dT (show (40:Int)<(p.bF[i].Name.length:Int) by omega)]
      · rw [dF h2,dF (show ¬ (40:Int)<(p.bF[i].Name.length:Int) by omega)]
  have hs2:oO N p (p.bF.length:Int)=some (.inr (.inl ())):=by
    unfold oO
    rw [bH,dF (by omega),kC]
  have hm:∀ (i:Nat) (hi:i<p.ai.length),oP N p (i:Int)=bif (decide (20<p.ai[i].Locks.length)||decide (40<p.ai[i].Name.length)) then some (.inr (.inr true)) else some (.inl ((i+1:Nat):Int)):=by
    intro i hi
    unfold oP
    rw [bH,dT (by omega),lJ,iW hi,bS,oG (by omega)]
    simp only [rY]
    by_cases h1:20<p.ai[i].Locks.length
    · rw [dT h1,dT (show (20:Int)<(p.ai[i].Locks.length:Int) by omega)];rfl
    · rw [dF h1, dF (show ¬ (20 : Int) < (p.ai[i].Locks.length : Int) by omega), Bool.not_false, lJ, bS, Bool.false_or, Bool.false_or]
      by_cases h2:40<p.ai[i].Name.length
      · rw [dT h2,dT (show (40:Int)<(p.ai[i].Name.length:Int) by omega)]
      · rw [dF h2,dF (show ¬ (40:Int)<(p.ai[i].Name.length:Int) by omega)]
  have hm2:oP N p (p.ai.length:Int)=some (.inr (.inl ())):=by
    unfold oP
    rw [bH,dF (by omega),kC]
  have e1:=LK (N:=N) (fun i=>bif (p.bF.drop i).any (fun y=>decide (40<y.Next.length)||decide (40<y.Name.length)) then .inr true else .inl ()) (f:=oO N p) (n:=p.bF.length) (fun i hi=>by
    rw [hs i hi]
    simp only [drop_at hi,List.any_cons]
    cases (decide (40<p.bF[i].Next.length)||decide (40<p.bF[i].Name.length))
    · exact .inl ⟨rfl,by simp⟩
    · exact .inr rfl) (by rw [hs2];simp) (by omega)
  have e2:=LK (N:=N) (fun i=>bif (p.ai.drop i).any (fun y=>decide (20<y.Locks.length)||decide (40<y.Name.length)) then .inr true else .inl ()) (f:=oP N p) (n:=p.ai.length) (fun i hi=>by
    rw [hm i hi]
    simp only [drop_at hi,List.any_cons]
    cases (decide (20<p.ai[i].Locks.length)||decide (40<p.ai[i].Name.length))
    · exact .inl ⟨rfl,by simp⟩
    · exact .inr rfl) (by rw [hm2];simp) (by omega)
  rw [e1,e2]
  simp only [List.drop_zero,bS]
  cases ha:p.bF.any (fun y=>decide (40<y.Next.length)||decide (40<y.Name.length)) with
  | true=>exact .inl rfl
  | false =>
    cases hc:p.ai.any (fun y=>decide (20<y.Locks.length)||decide (40<y.Name.length)) with
    | true=>exact .inl rfl
    | false =>
      have ha':∀ y ∈ p.bF,y.Next.length≤40∧y.Name.length≤40:=fun y hy=>by
        have:=List.any_eq_false.1 ha y hy
        simp only [Bool.or_eq_true,decide_eq_true_eq,not_or] at this
        omega
      have hc':∀ y ∈ p.ai,y.Locks.length≤20∧y.Name.length≤40:=fun y hy=>by
        have:=List.any_eq_false.1 hc y hy
        simp only [Bool.or_eq_true,decide_eq_true_eq,not_or] at this
        omega
      exact .inr ⟨rfl,⟨by omega,by omega,by omega,fun y hy=>by have:=(ha' y hy).1;omega,fun y hy=>by have:=(hc' y hy).1;omega⟩,by omega,by omega,by omega,ha',hc'⟩
end Go.KB
