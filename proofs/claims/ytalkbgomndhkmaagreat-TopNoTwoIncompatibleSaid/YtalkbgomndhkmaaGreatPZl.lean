/- Plain laws of chapter 7: loops, names, sets of names. Plain laws of chapter 7: searches, names, places of spaces and permits. Plain laws of chapter 7: CheckPlan. Plain laws of chapter 7: which plans are looked at. No condition. -/
import Derived.Test.YtalkbgomndhkmaaGreatPZa
import Derived.Test.YtalkbgomndhkmaaGreatGPure
namespace Go.KB
set_option linter.unusedVariables false
theorem w64i {n:Int} (h0:-9223372036854775808≤n) (h1:n≤9223372036854775807):IntKind.i64.wrap n=n:=LY h0 h1
theorem dT {p:Prop} [Decidable p] (h:p):decide p=true:=decide_eq_true h
theorem dF {p:Prop} [Decidable p] (h:¬p):decide p=false:=decide_eq_false h
def fE (e:Nat→Int):Nat→Nat→Int
 | 0,_=>0
 | k+1,i=>if e i=0 then fE e k (i+1) else e i
theorem yB {e:Nat→Int}:∀ {k i:Nat},fE e k i=0→∀ j,i≤j→j<i+k→e j=0:=by
 intro k
 induction k with
 | zero=>intro i _ j h1 h2;omega
 | succ k ih =>
  intro i h j h1 h2
  simp only [fE] at h
  split at h
  ·rename_i h0
   rcases Nat.eq_or_lt_of_le h1 with rfl | h1
   ·exact h0
   ·exact ih h j h1 (by omega)
  ·rename_i h0;exact absurd h h0
theorem J8 {e e':Nat→Int}:∀ {k i:Nat},(∀ j,i≤j→j<i+k→(∀ m,i≤m→m<j→e m=0)→e j=e' j)→fE e k i=fE e' k i:=by
 intro k
 induction k with
 | zero=>intro i _;rfl
 | succ k ih =>
  intro i h
  have h0:=h i (Nat.le_refl _) (by omega) (fun m h1 h2=>by omega)
  simp only [fE]
  rw [← h0]
  by_cases hz:e i=0
  ·rw [if_pos hz,if_pos hz]
   refine ih fun j h1 h2 h3=>h j (by omega) (by omega) fun m hm1 hm2=>?_
   rcases Nat.eq_or_lt_of_le hm1 with rfl | hm1
   ·exact hz
   ·exact h3 m hm1 hm2
  ·rw [if_neg hz,if_neg hz]
def rD {O:Type} (fin:O) (err:Int→O) (z:Int):O:=if z=0 then fin else err z
theorem Ey {e:Nat→Int} {k i:Nat} (h:e i=0):fE e (k+1) i=fE e k (i+1):=by simp [fE,h]
theorem Iz {e:Nat→Int} {k i:Nat} (h:e i≠0):fE e (k+1) i=e i:=by simp [fE,h]
theorem vV {O:Type} {n N:Nat} {f:Int→Option (Int ⊕ O)} {e:Nat→Int} {fin:O} {err:Int→O} (hf:∀ i:Nat,i<n→(∀ j,j<i→e j=0)→f (i:Int)=if e i=0 then some (.inl ((i+1:Nat):Int)) else some (.inr (err (e i)))) (he:(∀ j,j<n→e j=0)→f (n:Int)=some (.inr fin)) (hN:n<N) :
  dB f N 0=some (rD fin err (fE e n 0)):=by
 have key:∀ k i,i+k=n→(∀ j,j<i→e j=0)→∀ M,k<M→dB f M (i:Int)=some (rD fin err (fE e k i)):=by
  intro k
  induction k with
  | zero =>
   intro i hi hz M hM
   obtain ⟨M,rfl⟩:∃ m,M=m+1:=⟨M - 1,by omega⟩
   have:i=n:=by omega
   subst this
   simp only [dB,he hz,fE];rfl
  | succ k ih =>
   intro i hi hz M hM
   obtain ⟨M,rfl⟩:∃ m,M=m+1:=⟨M - 1,by omega⟩
   simp only [dB,hf i (by omega) hz]
   by_cases h0:e i=0
   ·rw [if_pos h0,Ey h0]
    exact ih (i+1) (by omega) (fun j hj=>by
     rcases Nat.lt_succ_iff_lt_or_eq.1 hj with h | rfl
     ·exact hz j h
     ·exact h0) M (by omega)
   ·rw [if_neg h0,Iz h0]
    unfold rD
    rw [if_neg h0]
 exact key n 0 (by omega) (fun j hj=>absurd hj (Nat.not_lt_zero _)) N (by omega)
theorem Hz {S O:Type} {n N:Nat} {f:S→Option (S ⊕ O)} {e:Nat→Int} {fin:O} {err:Int→O} (g:Nat→S) (hf:∀ i:Nat,i<n→(∀ j,j<i→e j=0)→f (g i)=if e i=0 then some (.inl (g (i+1))) else some (.inr (err (e i)))) (he:(∀ j,j<n→e j=0)→f (g n)=some (.inr fin)) (hN:n<N) :
  dB f N (g 0)=some (rD fin err (fE e n 0)):=by
 have key:∀ k i,i+k=n→(∀ j,j<i→e j=0)→∀ M,k<M→dB f M (g i)=some (rD fin err (fE e k i)):=by
  intro k
  induction k with
  | zero =>
   intro i hi hz M hM
   obtain ⟨M,rfl⟩:∃ m,M=m+1:=⟨M - 1,by omega⟩
   have:i=n:=by omega
   subst this
   simp only [dB,he hz,fE];rfl
  | succ k ih =>
   intro i hi hz M hM
   obtain ⟨M,rfl⟩:∃ m,M=m+1:=⟨M - 1,by omega⟩
   simp only [dB,hf i (by omega) hz]
   by_cases h0:e i=0
   ·rw [if_pos h0,Ey h0]
    exact ih (i+1) (by omega) (fun j hj=>by
     rcases Nat.lt_succ_iff_lt_or_eq.1 hj with h | rfl
     ·exact hz j h
     ·exact h0) M (by omega)
   ·rw [if_neg h0,Iz h0]
    unfold rD
    rw [if_neg h0]
 exact key n 0 (by omega) (fun j hj=>absurd hj (Nat.not_lt_zero _)) N (by omega)
theorem Dw {α:Type} [Inhabited α] {l:List α} {i:Nat} (h:i<l.length):l[i]! = l[i]:=by simp [h]
theorem FW {α:Type} [Inhabited α] {l:List α} {i:Nat} (h:i<l.length):idx l (i:Int)=some l[i]!:=by rw [iU h,Dw h]
theorem Lh {α:Type} {b:Bool} {x y:α}:(bif b then some x else some y)=some (bif b then x else y):=by cases b <;> rfl
theorem NI:∀ {k i:Nat},fE (fun _=>0) k i=0:=by
 intro k
 induction k with
 | zero=>intro i;rfl
 | succ n ih=>intro i;rw [Ey (e:=fun _=>0) rfl];exact ih
theorem Cj {α β:Type} [DecidableEq α] (z:β) (x k:α) (y:β):∀ m:List (α×β),iC z (oZ m x y) k=if k=x then y else iC z m k
 | []=>by
  by_cases h:k=x
  ·subst h;simp [iC,oZ]
  ·simp [iC,oZ,h]
 | p :: r=>by
  by_cases hp:x=p.1
  ·subst hp
   by_cases h:k=p.1
   ·subst h;simp [iC,oZ]
   ·simp [iC,oZ,h]
  ·by_cases h : k = p.1
   ·subst h;simp [iC,oZ,hp,Ne.symm hp]
   ·simp [iC,oZ,hp,h,Cj z x k y r]
theorem qZ (a b:Str):xM .eql a b=decide (a=b):=by
 unfold xM
 rw [Bool.eq_iff_iff]
 simp
theorem VR (a b:Str):xM .neq a b = !decide (a=b):=by
 rw [← qZ];rfl
def dup (nm:Nat→Str):Nat→Str→Bool
 | 0,_=>false
 | i+1,x=>decide (x=nm i)||dup nm i x
def seen (nm:Nat→Str):Nat→List (Str×Bool)
 | 0=>[]
 | i+1=>oZ (seen nm i) (nm i) true
theorem GR (nm:Nat→Str) (x:Str):∀ i,iC false (seen nm i) x=dup nm i x
 | 0=>rfl
 | i+1=>by
  simp only [seen,dup,Cj,GR nm x i]
  by_cases h:x=nm i <;> simp [h]
theorem NR (nm:Nat→Str) (x:Str):∀ i,dup nm i x=true↔∃ j,j<i∧nm j=x
 | 0=>by simp [dup]
 | i+1=>by
  simp only [dup,Bool.or_eq_true,decide_eq_true_eq,NR nm x i]
  constructor
  ·rintro (h | ⟨j,h1,h2⟩)
   ·exact ⟨i,by omega,h.symm⟩
   ·exact ⟨j,by omega,h2⟩
  ·rintro ⟨j,h1,h2⟩
   by_cases hj:j=i
   ·subst hj;exact .inl h2.symm
   ·exact .inr ⟨j,by omega,h2⟩
def same (nm:Nat→Str) (x:Str) (j:Nat):Int:=if nm j=x then 5 else 0
def VS (x0:Str) (s1:Int):Option (Int ⊕ (Unit ⊕ Bool)) :=
 bif (aV .lss s1 (List.length x0:Int)) then ((idx x0 s1).bind fun v2=>bif ((!(((aV .geq ((UInt8.toNat v2:Nat):Int) 97)&&(aV .leq ((UInt8.toNat v2:Nat):Int) 122))||((aV .geq ((UInt8.toNat v2:Nat):Int) 65)&&(aV .leq ((UInt8.toNat v2:Nat):Int) 90))))&&((aV .eql s1 0)||((aV .neq ((UInt8.toNat v2:Nat):Int) 45)&&((aV .lss ((UInt8.toNat v2:Nat):Int) 48)||(aV .gtr ((UInt8.toNat v2:Nat):Int) 57))))) then (some (.inr (Sum.inr false))) else (some (.inl (IntKind.i64.wrap (s1+1))))) else (some (.inr (Sum.inl ())))
def XM (N:Nat) (x0:Str):Option (Bool) :=
 bif ((aV .lss (List.length x0:Int) 1)||(aV .gtr (List.length x0:Int) 12)) then (some false) else ((dB (VS x0) N 0).bind fun o5=>Sum.elim (fun l7=>some true) (fun r8=>some r8) o5)
theorem VT {N:Nat} {s:Str} (hN:13≤N):XM N s=some (kL s):=by
  unfold XM
  by_cases hlen:s.length<1∨12<s.length
  · have hc:(aV .lss (s.length:Int) 1||aV .gtr (s.length:Int) 12)=true:=by
      simp;omega
    rw [hc,nC]
    congr 1
    unfold kL
    rcases hlen with h | h
    · have : s = [] := List.eq_nil_of_length_eq_zero (by omega)
      subst this;rfl
    · cases s with
      | nil=>rfl
      | cons c r=>simp at h;simp;intro h';omega
  · have hc:(aV .lss (s.length:Int) 1||aV .gtr (s.length:Int) 12)=false:=by
      rw [Bool.or_eq_false_iff];simp;omega
    rw [hc,lI]
    cases s with
    | nil=>simp at hlen
    | cons c r =>
      have hr:r.length<12:=by simp at hlen;omega
      have hbad:∀ i (hi:i<(c :: r).length),((!(((aV .geq ((UInt8.toNat (c :: r)[i]:Nat):Int) 97)&&(aV .leq ((UInt8.toNat (c :: r)[i]:Nat):Int) 122))||((aV .geq ((UInt8.toNat (c :: r)[i]:Nat):Int) 65)&&(aV .leq ((UInt8.toNat (c :: r)[i]:Nat):Int) 90))))&&((aV .eql (i:Int) 0)||((aV .neq ((UInt8.toNat (c :: r)[i]:Nat):Int) 45)&&((aV .lss ((UInt8.toNat (c :: r)[i]:Nat):Int) 48)||(aV .gtr ((UInt8.toNat (c :: r)[i]:Nat):Int) 57))))) =
          !(if i=0 then wL (c :: r)[i] else sQ (c :: r)[i]):=by
        intro i hi
        split
        · rename_i h0;subst h0
          simp only [qR,Int.natCast_zero,decide_true,Bool.true_or,Bool.and_true]
          rfl
        · rename_i h0
          rw [qR,show decide ((i:Int)=0)=false by rw [decide_eq_false_iff_not];omega,Bool.false_or]
          unfold sQ wL Xt
          simp only [ru,bT,tH,yC,xI]
          generalize ((UInt8.toNat (c :: r)[i]:Nat):Int)=x
          rw [Bool.eq_iff_iff]
          simp only [Bool.and_eq_true,Bool.or_eq_true,Bool.not_eq_true',Bool.or_eq_false_iff,Bool.and_eq_false_iff,decide_eq_true_eq,decide_eq_false_iff_not]
          omega
      rw [Py (c :: r).length (if kL (c :: r) then .inl () else .inr false) (fun i=>∀ j (h:j<(c :: r).length),j<i→(if j=0 then wL (c :: r)[j] else sQ (c :: r)[j])=true) ?_ ?_ (fun j _ h=>absurd h (Nat.not_lt_zero _)) N (by simp;omega)]
      · cases kL (c :: r) <;> rfl
      · intro i hi hp
        unfold VS
        rw [bT,show decide ((i:Int)<((c :: r).length:Int))=true by rw [decide_eq_true_eq];omega,nC,iU hi,bS,hbad i hi,qy (show i<9223372036854775807 by simp at hi;omega)]
        cases hg:(if i=0 then wL (c :: r)[i] else sQ (c :: r)[i]) with
        | true =>
          refine .inl ⟨rfl,fun j hj hji=>?_⟩
          rcases Nat.lt_succ_iff_lt_or_eq.1 hji with h | rfl
          · exact hp j hj h
          · exact hg
        | false =>
          refine .inr ?_
          have:kL (c :: r)=false:=by
            rw [Bool.eq_false_iff]
            intro h
            simp only [kL,Bool.and_eq_true,decide_eq_true_eq] at h
            obtain ⟨⟨_,h1⟩,h2⟩:=h
            rw [List.all_eq_true] at h2
            cases i with
            | zero=>simp [h1] at hg
            | succ i =>
              simp at hg
              have:=h2 _ (List.getElem_mem (by simpa using hi:i<r.length))
              rw [this] at hg;cases hg
          rw [this];rfl
      · intro hp
        unfold VS
        rw [bT,show decide ((((c :: r).length:Nat):Int)<((c :: r).length:Int))=false by simp,lI]
        have:kL (c :: r)=true:=by
          simp only [kL,Bool.and_eq_true,decide_eq_true_eq]
          refine ⟨⟨hr,(by have h:=hp 0 (by simp) (by simp);rw [if_pos rfl] at h;exact h)⟩,?_⟩
          rw [List.all_eq_true]
          intro x hx
          obtain ⟨j,hj,rfl⟩:=List.getElem_of_mem hx
          have:=hp (j+1) (by simp;omega) (by simp;omega)
          simpa using this
        rw [this];rfl
theorem Me {N:Nat} {s:Str} (hN:13≤N):wH N s=some (kL s):=VT hN
end Go.KB
namespace Go.KB
set_option linter.unusedVariables false
theorem Kr {O:Type} {n N:Nat} {f:Int→Option (Int ⊕ O)} (R:Nat→O) (hf:∀ i:Nat,i<n→(f (i:Int)=some (.inl ((i+1:Nat):Int))∧R i=R (i+1))∨f (i:Int)=some (.inr (R i))) (he:f (n:Int)=some (.inr (R n))) (hN:n<N):dB f N 0=some (R 0):=by
 have key:∀ k i,i+k=n→∀ M,k<M→dB f M (i:Int)=some (R i):=by
  intro k
  induction k with
  | zero =>
   intro i hi M hM
   obtain ⟨M,rfl⟩:∃ m,M=m+1:=⟨M - 1,by omega⟩
   have:i=n:=by omega
   subst this
   simp only [dB,he]
  | succ k ih =>
   intro i hi M hM
   obtain ⟨M,rfl⟩:∃ m,M=m+1:=⟨M - 1,by omega⟩
   rcases hf i (by omega) with ⟨h1,h2⟩ | h1
   ·simp only [dB,h1];rw [h2];exact ih (i+1) (by omega) M (by omega)
   ·simp only [dB,h1]
 exact key n 0 (by omega) N (by omega)
theorem drop_at {α:Type} {l:List α} {i:Nat} (h:i<l.length):l.drop i=l[i] :: l.drop (i+1):=List.drop_eq_getElem_cons h
theorem VU {α:Type} {l:List α} {N:Nat} {f:Int→Option (Int ⊕ (Unit ⊕ Bool))} {g:α→Bool} (hf:∀ (i:Nat) (h:i<l.length),f (i:Int)=bif g l[i] then some (.inl ((i+1:Nat):Int)) else some (.inr (.inr false))) (he:f (l.length:Int)=some (.inr (.inl ()))) (hN:l.length<N) :
  ((dB f N 0).bind fun o=>Sum.elim (fun _=>some true) (fun r=>some r) o)=some (l.all g):=by
 rw [Kr (fun i=>bif (l.drop i).all g then .inl () else .inr false) (fun i hi=>?_) (by simp [he]) hN]
 ·simp only [List.drop_zero,bS];cases l.all g <;> rfl
 ·rw [hf i hi]
  simp only [drop_at hi,List.all_cons]
  cases g l[i]
  ·exact .inr rfl
  ·exact .inl ⟨rfl,by simp⟩
def IL {α:Type} (g:α→Bool) (l:List α):Int:=if l.findIdx g<l.length then (l.findIdx g:Int) else -1
theorem wz {α:Type} {l:List α} {N:Nat} {f:Int→Option (Int ⊕ (Unit ⊕ Int))} {g:α→Bool} (hf:∀ (i:Nat) (h:i<l.length),f (i:Int)=bif g l[i] then some (.inr (.inr (i:Int))) else some (.inl ((i+1:Nat):Int))) (he:f (l.length:Int)=some (.inr (.inl ()))) (hN:l.length<N) :
  ((dB f N 0).bind fun o=>Sum.elim (fun _=>some (-1:Int)) (fun r=>some r) o)=some (IL g l):=by
 rw [Kr (fun i=>if (l.drop i).findIdx g<(l.drop i).length then .inr (((i+(l.drop i).findIdx g:Nat)):Int) else .inl ()) (fun i hi=>?_) (by simp [he]) hN]
 ·simp only [List.drop_zero,Nat.zero_add,bS,IL];split <;> rfl
 ·rw [hf i hi]
  simp only [drop_at hi,List.findIdx_cons]
  cases g l[i]
  ·refine .inl ⟨rfl,?_⟩
   simp only [lI,List.length_cons,Nat.add_lt_add_iff_right]
   split
   ·congr 2;omega
   ·rfl
  ·refine .inr ?_
   simp only [nC,List.length_cons,Nat.zero_lt_succ,if_true,Nat.add_zero]
theorem A8 {α:Type} {g:α→Bool} {l:List α} (h:l.findIdx g<l.length):IL g l=(l.findIdx g:Int):=if_pos h
theorem DC {α:Type} {g:α→Bool} {l:List α} (h:¬ l.findIdx g<l.length):IL g l = -1:=if_neg h
theorem Dz {α:Type} {g:α→Bool} {l:List α}:decide (IL g l<0) = !l.any g:=by
 have:l.any g=true↔l.findIdx g<l.length:=by
  rw [List.any_eq_true]
  exact List.findIdx_lt_length.symm
 by_cases h:l.findIdx g<l.length
 ·rw [A8 h,this.2 h];simp
 ·rw [DC h,Bool.eq_false_iff.2 (fun x=>h (this.1 x))];rfl
theorem Am {N:Nat} {s:Str} (hN:13≤N):nM N s=some (kL s):=by
  unfold nM
  by_cases hlen:s.length<1∨12<s.length
  · have hc : (aV .lss (s.length : Int) 1 || aV .gtr (s.length : Int) 12) = true := by simp; omega
    rw [hc]
    simp only [Bool.not_true,lI,bS,Bool.true_or,nC]
    congr 1
    unfold kL
    rcases hlen with h | h
    · have : s = [] := List.eq_nil_of_length_eq_zero (by omega)
      subst this;rfl
    · cases s with
      | nil=>rfl
      | cons c r=>simp at h;simp;intro h';omega
  · have hc : (aV .lss (s.length : Int) 1 || aV .gtr (s.length : Int) 12) = false := by rw [Bool.or_eq_false_iff]; simp; omega
    rw [hc]
    cases s with
    | nil=>simp at hlen
    | cons c r =>
      have hr:r.length<12:=by simp at hlen;omega
      have hl:∀ x:UInt8,uN N ((UInt8.toNat x:Nat):Int)=some (wL x):=fun x=>rfl
      have h0:idx (c :: r) 0=some c:=by have:=iU (xs:=c :: r) (i:=0) (by simp);simpa using this
      simp only [Bool.not_false,nC,h0,bS,hl,Bool.false_or]
      cases hc:wL c with
      | false=>simp [kL,hc]
      | true =>
        simp only [Bool.not_true,lI]
        have h1:∀ (i:Nat) (hi:i<(c :: r).length),qc N (c :: r) (i:Int)=bif sQ (c :: r)[i] then some (.inl ((i+1:Nat):Int)) else some (.inr (.inr false)):=by
          intro i hi
          unfold qc
          rw [bT,dT (by omega),nC,iU hi,bS,hl,bS,qy (show i<9223372036854775807 by simp at hi;omega)]
          have:((!wL (c :: r)[i]&&aV .neq ((UInt8.toNat (c :: r)[i]:Nat):Int) 45)&&(aV .lss ((UInt8.toNat (c :: r)[i]:Nat):Int) 48||aV .gtr ((UInt8.toNat (c :: r)[i]:Nat):Int) 57)) = !sQ (c :: r)[i]:=by
            unfold sQ Xt
            cases wL (c :: r)[i]
            · simp only [Bool.not_false,Bool.true_and,Bool.false_or,ru,bT,tH]
              generalize ((UInt8.toNat (c :: r)[i]:Nat):Int)=x
              rw [Bool.eq_iff_iff]
              simp only [Bool.and_eq_true,Bool.or_eq_true,Bool.not_eq_true',Bool.or_eq_false_iff,Bool.and_eq_false_iff,decide_eq_true_eq,decide_eq_false_iff_not]
              omega
            · simp
          rw [this]
          cases sQ (c :: r)[i] <;> rfl
        have h2:qc N (c :: r) ((c :: r).length:Int)=some (.inr (.inl ())):=by
          unfold qc
          rw [bT,dF (by omega),lI]
        rw [VU h1 h2 (by simp;omega)]
        simp [kL,hc,sQ,hr]
instance:Inhabited dm:=⟨⟨[],false,[]⟩⟩
instance:Inhabited aG:=⟨⟨[],0,[],0,0,[]⟩⟩
instance:Inhabited bK:=⟨⟨0,0,0⟩⟩
def isS (s:Str) (y:dm):Bool:=decide (y.Name=s)
def Le (s:Str) (y:aG):Bool:=decide (y.Name=s)
theorem Ub {N:Nat} {l:List dm} {f:dm→Option Bool} {g:dm→Bool} (hf:∀ y,f y=some (g y)) (hl:l.length<1000000) (hN:1000000≤N):jo N l f=some (IL g l):=by
 unfold jo
 refine wz (fun i hi=>?_) ?_ (by omega)
 ·unfold iQ
  rw [bT,dT (by omega),nC,iU hi,bS,hf,bS,qy (by omega)]
 ·unfold iQ
  rw [bT,dF (by omega),lI]
theorem L9 {N:Nat} {l:List aG} {f:aG→Option Bool} {g:aG→Bool} (hf:∀ y,f y=some (g y)) (hl:l.length<1000000) (hN:1000000≤N):gX N l f=some (IL g l):=by
 unfold gX
 refine wz (fun i hi=>?_) ?_ (by omega)
 ·unfold iH
  rw [bT,dT (by omega),nC,iU hi,bS,hf,bS,qy (by omega)]
 ·unfold iH
  rw [bT,dF (by omega),lI]
theorem H8 {N:Nat} {p:GPermitPlan} {s:Str} (hl:p.bP.length<1000000) (hN:1000000≤N):sK N p s=some (IL (isS s) p.bP):=by
 unfold sK
 refine wz (fun i hi=>?_) ?_ (by omega)
 ·unfold uh
  rw [bT,dT (by omega),nC,iU hi,bS,qZ,qy (by omega)];rfl
 ·unfold uh
  rw [bT,dF (by omega),lI]
theorem KH {N:Nat} {p:GPermitPlan} {s:Str} (hl:p.aB.length<1000000) (hN:1000000≤N):ul N p s=some (IL (Le s) p.aB):=by
 unfold ul
 refine wz (fun i hi=>?_) ?_ (by omega)
 ·unfold rW
  rw [bT,dT (by omega),nC,iU hi,bS,qZ,qy (by omega)];rfl
 ·unfold rW
  rw [bT,dF (by omega),lI]
def xR {α:Type} (z:α) (g:α→Bool) (l:List α):α×Bool:=match l.find? g with | some y=>(y,true) | none=>(z,false)
theorem NS {α:Type} {g:α→Bool}:∀ {l:List α},(l.findIdx g<l.length∧∃ h:l.findIdx g<l.length,l.find? g=some l[l.findIdx g])∨(¬ l.findIdx g<l.length∧l.find? g=none):=by
 intro l
 by_cases h:l.findIdx g<l.length
 ·refine .inl ⟨h,h,?_⟩
  exact (List.find?_eq_getElem?_findIdx ..).trans (List.getElem?_eq_getElem h)
 ·refine .inr ⟨h,?_⟩
  rw [List.find?_eq_getElem?_findIdx,List.getElem?_eq_none (by omega)]
theorem wX {N:Nat} {p:GPermitPlan} {s:Str} (hl:p.bP.length<1000000) (hN:1000000≤N):iY N p s=some (xR ⟨[],false,[]⟩ (isS s) p.bP):=by
 unfold iY
 rw [Ub (g:=isS s) (fun y=>by unfold qY;rw [qZ];rfl) hl hN,bS,bT]
 unfold xR
 rcases NS (g:=isS s) (l:=p.bP) with ⟨_,h,h2⟩ | ⟨h,h2⟩
 ·rw [h2,A8 h,dF (by omega),lI,iU h];rfl
 ·rw [h2,DC h];rfl
theorem yS {N:Nat} {p:GPermitPlan} {s:Str} (hl:p.aB.length<1000000) (hN:1000000≤N):jO N p s=some (xR ⟨[],0,[],0,0,[]⟩ (Le s) p.aB):=by
 unfold jO
 rw [L9 (g:=Le s) (fun y=>by unfold qL;rw [qZ];rfl) hl hN,bS,bT]
 unfold xR
 rcases NS (g:=Le s) (l:=p.aB) with ⟨_,h,h2⟩ | ⟨h,h2⟩
 ·rw [h2,A8 h,dF (by omega),lI,iU h];rfl
 ·rw [h2,DC h];rfl
theorem Ci {α:Type} {z:α} {g:α→Bool} {l:List α}:(xR z g l).2=l.any g:=by
 unfold xR
 cases h:l.find? g with
 | none=>simp only [];rw [eq_comm,Bool.eq_false_iff];intro hx;rw [List.any_eq_true] at hx;obtain ⟨x,hx,hg⟩:=hx;exact absurd hg (by simpa using List.find?_eq_none.1 h x hx)
 | some y=>simp only [];rw [eq_comm,List.any_eq_true];exact ⟨y,List.mem_of_find?_eq_some h,List.find?_some h⟩
end Go.KB
namespace Go.KB
set_option linter.unusedVariables false
def Ew (a b:Int):Int:=if a=0 then b else a
def yw (k:Int):Bool:=decide (0≤k)&&decide (k≤5)
def GV (p:GPermitPlan) (i:Nat):Str:=p.bP[i]!.Name
def Jc (p:GPermitPlan) (i:Nat):Str:=p.aB[i]!.Name
def zC (p:GPermitPlan) (s:Str):Bool:=p.bP.any (isS s)
def kH (p:GPermitPlan) (s:Str):Bool:=p.aB.any (Le s)
def qo (p:GPermitPlan) (s:Str):aG:=(xR ⟨[],0,[],0,0,[]⟩ (Le s) p.aB).1
def xQ (p:GPermitPlan) (s:Str):dm:=(xR ⟨[],false,[]⟩ (isS s) p.bP).1
def VO (p:GPermitPlan) (i:Nat):Int:=if kL (GV p i)=false then 4 else if dup (GV p) i (GV p i)=true then 5 else if 30<p.bP[i]!.Next.length then 8 else 0
def eNx (p:GPermitPlan) (y:dm) (j:Nat):Int:=if zC p y.Next[j]! = false then 6 else if y.Next[j]! = y.Name then 3 else 0
def KI (p:GPermitPlan) (i:Nat):Int:=fE (eNx p p.bP[i]!) p.bP[i]!.Next.length 0
def eEx (p:GPermitPlan) (i:Nat):Int:=if yw p.dn[i]!.A=false∨yw p.dn[i]!.B=false∨p.dn[i]!.Reach<0∨2<p.dn[i]!.Reach then 2 else 0
def XL (p:GPermitPlan) (i:Nat):Int:=if kL (Jc p i)=false then 4 else if dup (Jc p) i (Jc p i)=true then 5 else
 if yw p.aB[i]!.Kind=false∨p.aB[i]!.From<0∨p.aB[i]!.To≤p.aB[i]!.From∨1000000<p.aB[i]!.To then 2 else if zC p p.aB[i]!.Space=false then 6 else if 10<p.aB[i]!.Locks.length then 8 else 0
def eLk (p:GPermitPlan) (y:aG) (j:Nat):Int:=if kH p y.Locks[j]! = false then 6 else if (qo p y.Locks[j]!).Kind≠5∨y.Kind=5 then 3 else 0
def Pz (p:GPermitPlan) (i:Nat):Int:=fE (eLk p p.aB[i]!) p.aB[i]!.Locks.length 0
def qf (p:GPermitPlan):Int:=if 30<p.bP.length∨30<p.dn.length∨20<p.aB.length then 8 else if p.dN<1∨10000<p.dN then 2 else
 Ew (Ew (fE (VO p) p.bP.length 0) (fE (KI p) p.bP.length 0)) (Ew (fE (eEx p) p.dn.length 0) (Ew (fE (XL p) p.aB.length 0) (fE (Pz p) p.aB.length 0)))
structure EP (p:GPermitPlan):Prop where
 s:p.bP.length<1000
 x:p.dn.length<1000
 m:p.aB.length<1000
 n:∀ y ∈ p.bP,y.Next.length<1000
 l:∀ y ∈ p.aB,y.Locks.length<1000
theorem Aj {α:Type} [Inhabited α] {l:List α} {i:Nat} (h:i<l.length):l[i]! ∈ l:=by rw [Dw h];exact List.getElem_mem h
theorem sS {A:Type} {fin:A} {E:Int} {K:A→Option Int}:((some (rD (Sum.inl fin) (fun e=>Sum.inr e) E):Option (A ⊕ Int)).bind fun o=>Sum.elim (fun l=>K l) (fun r=>some r) o)=if E=0 then K fin else some E:=by
 unfold rD
 by_cases h:E=0
 ·rw [if_pos h,if_pos h];rfl
 ·rw [if_neg h,if_neg h];rfl
theorem QV {α:Type} [Inhabited α] {nm:α→Str} {x:Str} {l:List α} {i:Nat} (hi:i≤l.length):dup (fun j=>nm l[j]!) i x=(decide (0≤IL (fun y=>decide (nm y=x)) l)&&decide (IL (fun y=>decide (nm y=x)) l<(i:Int))):=by
 rw [Bool.eq_iff_iff,NR,Bool.and_eq_true,decide_eq_true_eq,decide_eq_true_eq]
 constructor
 ·rintro ⟨j,hj,hx⟩
  have hjl:j<l.length:=by omega
  rw [Dw hjl] at hx
  have hle:l.findIdx (fun y=>decide (nm y=x))≤j:=by
   rcases Nat.lt_or_ge j (l.findIdx (fun y=>decide (nm y=x))) with h | h
   ·exact absurd (List.not_of_lt_findIdx h) (by simp [hx])
   ·exact h
  rw [A8 (by omega)]
  omega
 ·rintro ⟨h1,h2⟩
  by_cases h:l.findIdx (fun y=>decide (nm y=x))<l.length
  ·rw [A8 h] at h2
   refine ⟨l.findIdx (fun y=>decide (nm y=x)),by omega,?_⟩
   show nm l[l.findIdx (fun y=>decide (nm y=x))]! = x
   rw [Dw h]
   have:=List.findIdx_getElem (xs:=l) (p:=fun y=>decide (nm y=x)) (w:=h)
   simpa using this
  ·rw [DC h] at h1;omega
theorem Xu {α:Type} [Inhabited α] {nm:α→Str} {x:Str} {l:List α}:dup (fun j=>nm l[j]!) l.length x=l.any (fun y=>decide (nm y=x)):=by
 rw [QV (Nat.le_refl _)]
 have:=Dz (g:=fun y=>decide (nm y=x)) (l:=l)
 by_cases h:l.findIdx (fun y=>decide (nm y=x))<l.length
 ·rw [A8 h] at this ⊢
  rw [dF (by omega)] at this
  rw [dT (by omega),dT (by omega)]
  cases hx:l.any (fun y=>decide (nm y=x)) with
  | true=>rfl
  | false=>rw [hx] at this;cases this
 ·rw [DC h] at this ⊢
  cases hx:l.any (fun y=>decide (nm y=x)) with
  | false=>rfl
  | true=>rw [hx] at this;cases this
theorem SA {N:Nat} {k:Int}:uX N k=some (yw k):=rfl
theorem VW {N:Nat} {k:Int}:vY N k=some (yw k):=rfl
section
variable {N:Nat} {p:GPermitPlan} (hp:EP p) (hN:1000000≤N)
include hp hN
theorem cs3:dB (l9 N p) N (([]:List (Str×Bool)),0)=some (rD (.inl (seen (GV p) p.bP.length)) (fun e=>.inr e) (fE (VO p) p.bP.length 0)):=by
 have hs:=hp.s
 refine Hz (fun i=>(seen (GV p) i,(i:Int))) (fun i hi _=>?_) (fun _=>?_) (by omega)
 ·unfold l9 VO
  simp only []
  rw [bT,dT (by omega),nC,FW hi,bS,Am (by omega),bS,GR,qy (by omega),tH]
  show (bif !kL (GV p i) then _ else bif dup (GV p) i (GV p i) then _ else _)=_
  cases kL (GV p i) with
  | false=>rfl
  | true =>
   cases dup (GV p) i (GV p i) with
   | true=>rfl
   | false =>
    by_cases h:30<p.bP[i]!.Next.length
    ·rw [dT (show (30:Int)<(p.bP[i]!.Next.length:Int) by omega),if_pos h];rfl
    ·rw [dF (show ¬ (30:Int)<(p.bP[i]!.Next.length:Int) by omega),if_neg h];rfl
 ·unfold l9
  simp only []
  rw [bT,dF (by omega),lI]
theorem cs1 {y:dm} (hy:y ∈ p.bP):dB (mr N (seen (GV p) p.bP.length) y) N 0=some (rD (.inl ()) (fun e=>.inr e) (fE (eNx p y) y.Next.length 0)):=by
 have hl:=hp.n y hy
 refine vV (fun i hi _=>?_) (fun _=>?_) (by omega)
 ·unfold mr eNx
  rw [bT,dT (by omega),nC,FW hi,bS,GR,show dup (GV p) p.bP.length y.Next[i]! = zC p y.Next[i]! from Xu,qy (by omega),qZ]
  cases zC p y.Next[i]! with
  | false=>rfl
  | true =>
   by_cases h:y.Next[i]! = y.Name
   ·rw [dT h,if_pos h];rfl
   ·rw [dF h,if_neg h];rfl
 ·unfold mr
  rw [bT,dF (by omega),lI]
theorem cs2:dB (mg N p (seen (GV p) p.bP.length)) N 0=some (rD (.inl ()) (fun e=>.inr e) (fE (KI p) p.bP.length 0)):=by
 have hs:=hp.s
 refine vV (fun i hi _=>?_) (fun _=>?_) (by omega)
 ·unfold mg
  rw [bT,dT (by omega),nC,FW hi,bS,cs1 hp hN (Aj hi),qy (by omega),bS]
  show Sum.elim _ _ (rD _ _ (KI p i))=_
  unfold rD
  by_cases h:KI p i=0
  ·rw [if_pos h,if_pos h];rfl
  ·rw [if_neg h,if_neg h];rfl
 ·unfold mg
  rw [bT,dF (by omega),lI]
theorem KJ:qw N p=some (Ew (fE (VO p) p.bP.length 0) (fE (KI p) p.bP.length 0)):=by
 unfold qw
 rw [cs3 hp hN,sS,cs2 hp hN,sS]
 unfold Ew
 split
 ·split
  ·rename_i h;rw [h]
  ·rfl
 ·rfl
theorem rcs3:dB (mO N p) N 0=some (rD (.inl ()) (fun e=>.inr e) (fE (VO p) p.bP.length 0)):=by
 have hs:=hp.s
 refine vV (fun i hi _=>?_) (fun _=>?_) (by omega)
 ·unfold mO VO
  rw [bT,dT (by omega),nC,FW hi,bS,Me (by omega),bS]
  have hd:uj N p (i:Int) (GV p i)=some (dup (GV p) i (GV p i)):=by
   unfold uj
   rw [H8 (by omega) hN,bS,yC,bT]
   exact congrArg some (QV (nm:=dm.Name) (x:=GV p i) (l:=p.bP) (Nat.le_of_lt hi)).symm
  rw [bS,show uj N p (i:Int) p.bP[i]!.Name=_ from hd,bS,bS,qy (by omega),tH]
  show (bif !kL (GV p i) then _ else bif dup (GV p) i (GV p i) then _ else _)=_
  cases kL (GV p i) with
  | false=>rfl
  | true =>
   cases dup (GV p) i (GV p i) with
   | true=>rfl
   | false =>
    by_cases h:30<p.bP[i]!.Next.length
    ·rw [dT (show (30:Int)<(p.bP[i]!.Next.length:Int) by omega),if_pos h];rfl
    ·rw [dF (show ¬ (30:Int)<(p.bP[i]!.Next.length:Int) by omega),if_neg h];rfl
 ·unfold mO
  rw [bT,dF (by omega),lI]
theorem rcs1 {i:Nat} (hi:i<p.bP.length):dB (mQ N p (i:Int)) N 0=some (rD (.inl ()) (fun e=>.inr e) (KI p i)):=by
 have hl:=hp.n _ (Aj hi)
 have hs:=hp.s
 refine vV (fun j hj _=>?_) (fun _=>?_) (by omega)
 ·unfold mQ eNx
  rw [FW hi,bS,bT,dT (by omega),nC,bS,FW hj,bS,H8 (by omega) hN,bS,bT,Dz,bS,FW hj,bS,bS,qy (by omega),qZ]
  show (bif !zC p _ then _ else _)=_
  cases zC p p.bP[i]!.Next[j]! with
  | false=>rfl
  | true =>
   by_cases h:p.bP[i]!.Next[j]! = p.bP[i]!.Name
   ·rw [dT h,if_pos h];rfl
   ·rw [dF h,if_neg h];rfl
 ·unfold mQ
  rw [FW hi,bS,bT,dF (by omega),lI]
theorem rcs2:dB (mP N p) N 0=some (rD (.inl ()) (fun e=>.inr e) (fE (KI p) p.bP.length 0)):=by
 have hs:=hp.s
 refine vV (fun i hi _=>?_) (fun _=>?_) (by omega)
 ·unfold mP
  rw [bT,dT (by omega),nC,rcs1 hp hN hi,qy (by omega),bS]
  unfold rD
  by_cases h:KI p i=0
  ·rw [if_pos h,if_pos h];rfl
  ·rw [if_neg h,if_neg h];rfl
 ·unfold mP
  rw [bT,dF (by omega),lI]
theorem IQ:qK N p=some (Ew (fE (VO p) p.bP.length 0) (fE (KI p) p.bP.length 0)):=by
 unfold qK
 rw [rcs3 hp hN,sS,rcs2 hp hN,sS]
 unfold Ew
 split
 ·split
  ·rename_i h;rw [h]
  ·rfl
 ·rfl
omit hp hN in
theorem ex_eq {a b:Bool} {r:Int}:((((!a)||(!(bif !(!a) then b else false)))||(aV .lss r 0))||(aV .gtr r 2))=decide (a=false∨b=false∨r<0∨2<r):=by
 rw [Bool.eq_iff_iff,bT,tH]
 cases a <;> cases b <;> simp
omit hN in
theorem exL (hN2:p.dn.length<N):dB (nI N p) N 0=some (rD (.inl ()) (fun e=>.inr e) (fE (eEx p) p.dn.length 0)):=by
 have hs:=hp.x
 refine vV (fun i hi _=>?_) (fun _=>?_) hN2
 ·unfold nI eEx
  simp only [SA]
  rw [bT,dT (by omega),nC,FW hi,bS,bS,Lh,bS,qy (by omega),ex_eq]
  by_cases h:yw p.dn[i]!.A=false∨yw p.dn[i]!.B=false∨p.dn[i]!.Reach<0∨2<p.dn[i]!.Reach
  ·rw [dT h,if_pos h];rfl
  ·rw [dF h,if_neg h];rfl
 ·unfold nI
  rw [bT,dF (by omega),lI]
omit hN in
theorem rexL (hN2:p.dn.length<N):dB (rY N p) N 0=some (rD (.inl ()) (fun e=>.inr e) (fE (eEx p) p.dn.length 0)):=exL hp hN2
omit hp hN in
theorem XO {a:Bool} {x y:Int}:((((!a)||(aV .lss x 0))||(aV .geq x y))||(aV .gtr y 1000000))=decide (a=false∨x<0∨y≤x∨1000000<y):=by
 rw [Bool.eq_iff_iff,bT,tH,yC]
 cases a <;> simp [or_assoc]
theorem pm3:dB (lQ N p) N (([]:List (Str×Bool)),0)=some (rD (.inl ()) (fun e=>.inr e) (fE (XL p) p.aB.length 0)):=by
 have hs:=hp.s
 have hm:=hp.m
 refine Hz (fun i=>(seen (Jc p) i,(i:Int))) (fun i hi _=>?_) (fun _=>?_) (by omega)
 ·unfold lQ XL
  simp only []
  rw [bT,dT (by omega),nC,FW hi,bS,wX (by omega) hN,bS,Am (by omega),bS,GR,qy (by omega),SA,bS,XO,Ci,tH]
  show (bif !kL (Jc p i) then _ else bif dup (Jc p) i (Jc p i) then _ else bif _ then _ else bif !zC p p.aB[i]!.Space then _ else _)=_
  cases kL (Jc p i) with
  | false=>rfl
  | true =>
   cases dup (Jc p) i (Jc p i) with
   | true=>rfl
   | false =>
    by_cases h:yw p.aB[i]!.Kind=false∨p.aB[i]!.From<0∨p.aB[i]!.To≤p.aB[i]!.From∨1000000<p.aB[i]!.To
    ·rw [dT h,if_pos h];rfl
    ·rw [dF h,if_neg h]
     cases zC p p.aB[i]!.Space with
     | false=>rfl
     | true =>
      by_cases h:10<p.aB[i]!.Locks.length
      ·rw [dT (show (10:Int)<(p.aB[i]!.Locks.length:Int) by omega),if_pos h];rfl
      ·rw [dF (show ¬ (10:Int)<(p.aB[i]!.Locks.length:Int) by omega),if_neg h];rfl
 ·unfold lQ
  simp only []
  rw [bT,dF (by omega),lI]
theorem rpm3:dB (oC N p) N 0=some (rD (.inl ()) (fun e=>.inr e) (fE (XL p) p.aB.length 0)):=by
 have hs:=hp.s
 have hm:=hp.m
 refine vV (fun i hi _=>?_) (fun _=>?_) (by omega)
 ·unfold oC XL
  have hd:aV .lss (IL (Le p.aB[i]!.Name) p.aB) (i:Int)=dup (Jc p) i (Jc p i):=by
   have h1:=QV (nm:=aG.Name) (x:=Jc p i) (l:=p.aB) (Nat.le_of_lt hi)
   have h2:(0:Int)≤IL (Le p.aB[i]!.Name) p.aB:=by
    have:=Dz (g:=Le p.aB[i]!.Name) (l:=p.aB)
    have h3:p.aB.any (Le p.aB[i]!.Name)=true:=List.any_eq_true.2 ⟨_,Aj hi,by simp [Le]⟩
    rw [h3] at this
    simpa using this
   rw [bT]
   show _=dup (fun j=>p.aB[j]!.Name) i (Jc p i)
   rw [h1]
   show _=(decide ((0:Int)≤IL (Le p.aB[i]!.Name) p.aB)&&decide (IL (Le p.aB[i]!.Name) p.aB<(i:Int)))
   rw [dT h2,Bool.true_and]
  rw [bT,dT (by omega),nC,FW hi,bS,Me (by omega),bS,KH (by omega) hN,bS,hd,VW,bS,XO,H8 (by omega) hN,bS,bT,Dz,tH,qy (by omega)]
  show (bif !kL (Jc p i) then _ else bif dup (Jc p) i (Jc p i) then _ else bif _ then _ else bif !zC p p.aB[i]!.Space then _ else _)=_
  cases kL (Jc p i) with
  | false=>rfl
  | true =>
   cases dup (Jc p) i (Jc p i) with
   | true=>rfl
   | false =>
    by_cases h:yw p.aB[i]!.Kind=false∨p.aB[i]!.From<0∨p.aB[i]!.To≤p.aB[i]!.From∨1000000<p.aB[i]!.To
    ·rw [dT h,if_pos h];rfl
    ·rw [dF h,if_neg h]
     cases zC p p.aB[i]!.Space with
     | false=>rfl
     | true =>
      by_cases h:10<p.aB[i]!.Locks.length
      ·rw [dT (show (10:Int)<(p.aB[i]!.Locks.length:Int) by omega),if_pos h];rfl
      ·rw [dF (show ¬ (10:Int)<(p.aB[i]!.Locks.length:Int) by omega),if_neg h];rfl
 ·unfold oC
  rw [bT,dF (by omega),lI]
omit hp hN in
theorem XP {a b:Int}:((aV .neq a 5)||(aV .eql b 5))=decide (a≠5∨b=5):=by
 rw [Bool.eq_iff_iff,ru,qR];simp
theorem lk1 {y:aG} (hy:y ∈ p.aB):dB (lU N p y) N 0=some (rD (.inl ()) (fun e=>.inr e) (fE (eLk p y) y.Locks.length 0)):=by
 have hm:=hp.m
 have hl:=hp.l y hy
 refine vV (fun i hi _=>?_) (fun _=>?_) (by omega)
 ·unfold lU eLk
  rw [bT,dT (by omega),nC,FW hi,bS,yS (by omega) hN,bS,Ci,XP,qy (by omega)]
  show (bif !kH p y.Locks[i]! then _ else bif decide ((qo p y.Locks[i]!).Kind≠5∨y.Kind=5) then _ else _)=_
  cases kH p y.Locks[i]! with
  | false=>rfl
  | true =>
   by_cases h:(qo p y.Locks[i]!).Kind≠5∨y.Kind=5
   ·rw [dT h,if_pos h];rfl
   ·rw [dF h,if_neg h];rfl
 ·unfold lU
  rw [bT,dF (by omega),lI]
theorem lk2:dB (lT N p) N 0=some (rD (.inl ()) (fun e=>.inr e) (fE (Pz p) p.aB.length 0)):=by
 have hm:=hp.m
 refine vV (fun i hi _=>?_) (fun _=>?_) (by omega)
 ·unfold lT
  rw [bT,dT (by omega),nC,FW hi,bS,lk1 hp hN (Aj hi),qy (by omega),bS]
  show Sum.elim _ _ (rD _ _ (Pz p i))=_
  unfold rD
  by_cases h:Pz p i=0
  ·rw [if_pos h,if_pos h];rfl
  ·rw [if_neg h,if_neg h];rfl
 ·unfold lT
  rw [bT,dF (by omega),lI]
theorem rlk1 {y:aG} (hy:y ∈ p.aB):dB (oG N p y) N 0=some (rD (.inl ()) (fun e=>.inr e) (fE (eLk p y) y.Locks.length 0)):=by
 have hm:=hp.m
 have hl:=hp.l y hy
 refine vV (fun i hi _=>?_) (fun _=>?_) (by omega)
 ·unfold oG eLk
  rw [bT,dT (by omega),nC,FW hi,bS,KH (by omega) hN,bS,bT,Dz,qy (by omega)]
  show (bif !kH p y.Locks[i]! then _ else _)=_
  cases hx:kH p y.Locks[i]! with
  | false=>rfl
  | true =>
   rw [Bool.not_true,lI]
   have hg:idx p.aB (IL (Le y.Locks[i]!) p.aB)=some (qo p y.Locks[i]!):=by
    unfold qo xR
    rcases NS (g:=Le y.Locks[i]!) (l:=p.aB) with ⟨_,h,h2⟩ | ⟨h,h2⟩
    ·rw [h2,A8 h,iU h]
    ·have:=Dz (g:=Le y.Locks[i]!) (l:=p.aB)
     rw [show p.aB.any (Le y.Locks[i]!)=true from hx,DC h] at this
     cases this
   rw [hg,bS,XP]
   by_cases h:(qo p y.Locks[i]!).Kind≠5∨y.Kind=5
   ·rw [dT h,if_pos h];rfl
   ·rw [dF h,if_neg h];rfl
 ·unfold oG
  rw [bT,dF (by omega),lI]
theorem rlk2:dB (oD N p) N 0=some (rD (.inl ()) (fun e=>.inr e) (fE (Pz p) p.aB.length 0)):=by
 have hm:=hp.m
 refine vV (fun i hi _=>?_) (fun _=>?_) (by omega)
 ·unfold oD
  rw [bT,dT (by omega),nC,FW hi,bS,rlk1 hp hN (Aj hi),qy (by omega),bS]
  show Sum.elim _ _ (rD _ _ (Pz p i))=_
  unfold rD
  by_cases h:Pz p i=0
  ·rw [if_pos h,if_pos h];rfl
  ·rw [if_neg h,if_neg h];rfl
 ·unfold oD
  rw [bT,dF (by omega),lI]
theorem IU:pU N p=some (Ew (fE (XL p) p.aB.length 0) (fE (Pz p) p.aB.length 0)):=by
 unfold pU
 rw [pm3 hp hN,sS,lk2 hp hN,sS]
 unfold Ew
 split
 ·split
  ·rename_i h;rw [h]
  ·rfl
 ·rfl
omit hp hN in
theorem VX:(((aV .gtr (List.length p.bP:Int) 30)||(aV .gtr (List.length p.dn:Int) 30))||(aV .gtr (List.length p.aB:Int) 20))=decide (30<p.bP.length∨30<p.dn.length∨20<p.aB.length):=by
 rw [Bool.eq_iff_iff];simp only [tH,Bool.or_eq_true,decide_eq_true_eq];omega
omit hp hN in
theorem VY {g:Int}:((aV .lss g 1)||(aV .gtr g 10000))=decide (g<1∨10000<g):=by
 rw [Bool.eq_iff_iff];simp
theorem GH:nT N p=some (qf p):=by
  have hx:=hp.x
  unfold nT qf
  rw [VX,VY]
  by_cases h:30<p.bP.length∨30<p.dn.length∨20<p.aB.length
  · rw [dT h,if_pos h];rfl
  · rw [dF h,if_neg h,lI]
    by_cases h:p.dN<1∨10000<p.dN
    · rw [dT h,if_pos h];rfl
    · rw [dF h,if_neg h,lI,KJ hp hN,bS,ru]
      generalize Ew (fE (VO p) p.bP.length 0) (fE (KI p) p.bP.length 0)=E
      unfold Ew
      by_cases h:E=0
      · rw [dT h, if_pos h, Bool.not_true, lI, exL hp (by omega), sS, IU hp hN]
        unfold Ew
        split
        · rfl
        · rfl
      · rw [dF h,if_neg h];rfl
theorem Lj:rX N p=some (qf p):=by
  have hx:=hp.x
  unfold rX qf
  rw [VX,VY]
  by_cases h:30<p.bP.length∨30<p.dn.length∨20<p.aB.length
  · rw [dT h,if_pos h];rfl
  · rw [dF h,if_neg h,lI]
    by_cases h:p.dN<1∨10000<p.dN
    · rw [dT h,if_pos h];rfl
    · rw [dF h,if_neg h,lI,IQ hp hN,bS,ru]
      generalize Ew (fE (VO p) p.bP.length 0) (fE (KI p) p.bP.length 0)=E
      unfold Ew
      by_cases h:E=0
      · rw [dT h, if_pos h, Bool.not_true, lI, rexL hp (by omega), sS, rpm3 hp hN, sS, rlk2 hp hN, sS]
        split
        · split
          · split
            · rename_i h1 h2 h3;rw [h3]
            · rfl
          · rfl
        · rfl
      · rw [dF h,if_neg h];rfl
end
end Go.KB
namespace Go.KB
set_option linter.unusedVariables false
theorem VZ {N:Nat} (p:GPermitPlan) (hN:1000000≤N):uV N p=some true∨(uV N p=some false∧EP p∧p.bP.length≤40∧p.dn.length≤40∧p.aB.length≤30∧(∀ y ∈ p.bP,y.Next.length≤40∧y.Name.length≤40)∧∀ y ∈ p.aB,y.Locks.length≤20∧y.Name.length≤40):=by
  unfold uV
  have hb:(((aV .gtr (List.length p.bP:Int) 40)||(aV .gtr (List.length p.dn:Int) 40))||(aV .gtr (List.length p.aB:Int) 30))=decide (40<p.bP.length∨40<p.dn.length∨30<p.aB.length):=by
    rw [Bool.eq_iff_iff];simp only [tH,Bool.or_eq_true,decide_eq_true_eq];omega
  rw [hb]
  by_cases h:40<p.bP.length∨40<p.dn.length∨30<p.aB.length
  · rw [dT h];exact .inl rfl
  rw [dF h,lI]
  have hs:∀ (i:Nat) (hi:i<p.bP.length),ou N p (i:Int)=bif (decide (40<p.bP[i].Next.length)||decide (40<p.bP[i].Name.length)) then some (.inr (.inr true)) else some (.inl ((i+1:Nat):Int)):=by
    intro i hi
    unfold ou
    rw [bT,dT (by omega),nC,iU hi,bS,qy (by omega)]
    simp only [tH]
    by_cases h1:40<p.bP[i].Next.length
    · rw [dT h1,dT (show (40:Int)<(p.bP[i].Next.length:Int) by omega)];rfl
    · rw [dF h1, dF (show ¬ (40 : Int) < (p.bP[i].Next.length : Int) by omega), Bool.not_false, nC, bS, Bool.false_or, Bool.false_or]
      by_cases h2:40<p.bP[i].Name.length
      · rw [dT h2,dT (show (40:Int)<(p.bP[i].Name.length:Int) by omega)]
      · rw [dF h2,dF (show ¬ (40:Int)<(p.bP[i].Name.length:Int) by omega)]
  have hs2:ou N p (p.bP.length:Int)=some (.inr (.inl ())):=by
    unfold ou
    rw [bT,dF (by omega),lI]
  have hm:∀ (i:Nat) (hi:i<p.aB.length),oz N p (i:Int)=bif (decide (20<p.aB[i].Locks.length)||decide (40<p.aB[i].Name.length)) then some (.inr (.inr true)) else some (.inl ((i+1:Nat):Int)):=by
    intro i hi
    unfold oz
    rw [bT,dT (by omega),nC,iU hi,bS,qy (by omega)]
    simp only [tH]
    by_cases h1:20<p.aB[i].Locks.length
    · rw [dT h1,dT (show (20:Int)<(p.aB[i].Locks.length:Int) by omega)];rfl
    · rw [dF h1, dF (show ¬ (20 : Int) < (p.aB[i].Locks.length : Int) by omega), Bool.not_false, nC, bS, Bool.false_or, Bool.false_or]
      by_cases h2:40<p.aB[i].Name.length
      · rw [dT h2,dT (show (40:Int)<(p.aB[i].Name.length:Int) by omega)]
      · rw [dF h2,dF (show ¬ (40:Int)<(p.aB[i].Name.length:Int) by omega)]
  have hm2:oz N p (p.aB.length:Int)=some (.inr (.inl ())):=by
    unfold oz
    rw [bT,dF (by omega),lI]
  have e1:=Kr (N:=N) (fun i=>bif (p.bP.drop i).any (fun y=>decide (40<y.Next.length)||decide (40<y.Name.length)) then .inr true else .inl ()) (f:=ou N p) (n:=p.bP.length) (fun i hi=>by
    rw [hs i hi]
    simp only [drop_at hi,List.any_cons]
    cases (decide (40<p.bP[i].Next.length)||decide (40<p.bP[i].Name.length))
    · exact .inl ⟨rfl,by simp⟩
    · exact .inr rfl) (by rw [hs2];simp) (by omega)
  have e2:=Kr (N:=N) (fun i=>bif (p.aB.drop i).any (fun y=>decide (20<y.Locks.length)||decide (40<y.Name.length)) then .inr true else .inl ()) (f:=oz N p) (n:=p.aB.length) (fun i hi=>by
    rw [hm i hi]
    simp only [drop_at hi,List.any_cons]
    cases (decide (20<p.aB[i].Locks.length)||decide (40<p.aB[i].Name.length))
    · exact .inl ⟨rfl,by simp⟩
    · exact .inr rfl) (by rw [hm2];simp) (by omega)
  rw [e1,e2]
  simp only [List.drop_zero,bS]
  cases ha:p.bP.any (fun y=>decide (40<y.Next.length)||decide (40<y.Name.length)) with
  | true=>exact .inl rfl
  | false =>
    cases hc:p.aB.any (fun y=>decide (20<y.Locks.length)||decide (40<y.Name.length)) with
    | true=>exact .inl rfl
    | false =>
      have ha':∀ y ∈ p.bP,y.Next.length≤40∧y.Name.length≤40:=fun y hy=>by
        have:=List.any_eq_false.1 ha y hy
        simp only [Bool.or_eq_true,decide_eq_true_eq,not_or] at this
        omega
      have hc':∀ y ∈ p.aB,y.Locks.length≤20∧y.Name.length≤40:=fun y hy=>by
        have:=List.any_eq_false.1 hc y hy
        simp only [Bool.or_eq_true,decide_eq_true_eq,not_or] at this
        omega
      exact .inr ⟨rfl,⟨by omega,by omega,by omega,fun y hy=>by have:=(ha' y hy).1;omega,fun y hy=>by have:=(hc' y hy).1;omega⟩,by omega,by omega,by omega,ha',hc'⟩
end Go.KB
