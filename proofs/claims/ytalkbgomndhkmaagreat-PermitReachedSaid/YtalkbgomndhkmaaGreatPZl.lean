/- Plain laws of chapter 7: loops, names, sets of names. Plain laws of chapter 7: searches, names, places of spaces and permits. Plain laws of chapter 7: CheckPlan. Plain laws of chapter 7: which plans are looked at. No condition. -/
import Derived.Test.YtalkbgomndhkmaaGreatPZa
import Derived.Test.YtalkbgomndhkmaaGreatGPure
namespace Go.KB
set_option linter.unusedVariables false
theorem XW {n:Int} (h0:-9223372036854775808≤n) (h1:n≤9223372036854775807):IntKind.i64.wrap n=n:=MC h0 h1
theorem dT {p:Prop} [Decidable p] (h:p):decide p=true:=decide_eq_true h
theorem dF {p:Prop} [Decidable p] (h:¬p):decide p=false:=decide_eq_false h
def gq (e:Nat→Int):Nat→Nat→Int
 | 0,_=>0
 | k+1,i=>if e i=0 then gq e k (i+1) else e i
theorem Bz {e:Nat→Int}:∀ {k i:Nat},gq e k i=0→∀ j,i≤j→j<i+k→e j=0:=by
 intro k
 induction k with
 | zero=>intro i _ j h1 h2;omega
 | succ k ih =>
  intro i h j h1 h2
  simp only [gq] at h
  split at h
  ·rename_i h0
   rcases Nat.eq_or_lt_of_le h1 with rfl | h1
   ·exact h0
   ·exact ih h j h1 (by omega)
  ·rename_i h0;exact absurd h h0
def sS {O:Type} (fin:O) (err:Int→O) (z:Int):O:=if z=0 then fin else err z
theorem IZ {e:Nat→Int} {k i:Nat} (h:e i=0):gq e (k+1) i=gq e k (i+1):=by simp [gq,h]
theorem I4 {e:Nat→Int} {k i:Nat} (h:e i≠0):gq e (k+1) i=e i:=by simp [gq,h]
theorem vZ {O:Type} {n N:Nat} {f:Int→Option (Int ⊕ O)} {e:Nat→Int} {fin:O} {err:Int→O} (hf:∀ i:Nat,i<n→(∀ j,j<i→e j=0)→f (i:Int)=if e i=0 then some (.inl ((i+1:Nat):Int)) else some (.inr (err (e i)))) (he:(∀ j,j<n→e j=0)→f (n:Int)=some (.inr fin)) (hN:n<N) :
  bZ f N 0=some (sS fin err (gq e n 0)):=by
 have key:∀ k i,i+k=n→(∀ j,j<i→e j=0)→∀ M,k<M→bZ f M (i:Int)=some (sS fin err (gq e k i)):=by
  intro k
  induction k with
  | zero =>
   intro i hi hz M hM
   obtain ⟨M,rfl⟩:∃ m,M=m+1:=⟨M - 1,by omega⟩
   have:i=n:=by omega
   subst this
   simp only [bZ,he hz,gq];rfl
  | succ k ih =>
   intro i hi hz M hM
   obtain ⟨M,rfl⟩:∃ m,M=m+1:=⟨M - 1,by omega⟩
   simp only [bZ,hf i (by omega) hz]
   by_cases h0:e i=0
   ·rw [if_pos h0,IZ h0]
    exact ih (i+1) (by omega) (fun j hj=>by
     rcases Nat.lt_succ_iff_lt_or_eq.1 hj with h | rfl
     ·exact hz j h
     ·exact h0) M (by omega)
   ·rw [if_neg h0,I4 h0]
    unfold sS
    rw [if_neg h0]
 exact key n 0 (by omega) (fun j hj=>absurd hj (Nat.not_lt_zero _)) N (by omega)
theorem MQ {S O:Type} {n N:Nat} {f:S→Option (S ⊕ O)} {e:Nat→Int} {fin:O} {err:Int→O} (g:Nat→S) (hf:∀ i:Nat,i<n→(∀ j,j<i→e j=0)→f (g i)=if e i=0 then some (.inl (g (i+1))) else some (.inr (err (e i)))) (he:(∀ j,j<n→e j=0)→f (g n)=some (.inr fin)) (hN:n<N) :
  bZ f N (g 0)=some (sS fin err (gq e n 0)):=by
 have key:∀ k i,i+k=n→(∀ j,j<i→e j=0)→∀ M,k<M→bZ f M (g i)=some (sS fin err (gq e k i)):=by
  intro k
  induction k with
  | zero =>
   intro i hi hz M hM
   obtain ⟨M,rfl⟩:∃ m,M=m+1:=⟨M - 1,by omega⟩
   have:i=n:=by omega
   subst this
   simp only [bZ,he hz,gq];rfl
  | succ k ih =>
   intro i hi hz M hM
   obtain ⟨M,rfl⟩:∃ m,M=m+1:=⟨M - 1,by omega⟩
   simp only [bZ,hf i (by omega) hz]
   by_cases h0:e i=0
   ·rw [if_pos h0,IZ h0]
    exact ih (i+1) (by omega) (fun j hj=>by
     rcases Nat.lt_succ_iff_lt_or_eq.1 hj with h | rfl
     ·exact hz j h
     ·exact h0) M (by omega)
   ·rw [if_neg h0,I4 h0]
    unfold sS
    rw [if_neg h0]
 exact key n 0 (by omega) (fun j hj=>absurd hj (Nat.not_lt_zero _)) N (by omega)
theorem En {α:Type} [Inhabited α] {l:List α} {i:Nat} (h:i<l.length):l[i]! = l[i]:=by simp [h]
theorem Dq {α:Type} [Inhabited α] {l:List α} {i:Nat} (h:i<l.length):idx l (i:Int)=some l[i]!:=by rw [ig h,En h]
theorem LC {α:Type} {b:Bool} {x y:α}:(bif b then some x else some y)=some (bif b then x else y):=by cases b <;> rfl
theorem Cf {α β:Type} [DecidableEq α] (z:β) (x k:α) (y:β):∀ m:List (α×β),iC z (pI m x y) k=if k=x then y else iC z m k
 | []=>by
  by_cases h:k=x
  ·subst h;simp [iC,pI]
  ·simp [iC,pI,h]
 | p :: r=>by
  by_cases hp:x=p.1
  ·subst hp
   by_cases h:k=p.1
   ·subst h;simp [iC,pI]
   ·simp [iC,pI,h]
  ·by_cases h : k = p.1
   ·subst h;simp [iC,pI,hp,Ne.symm hp]
   ·simp [iC,pI,hp,h,Cf z x k y r]
theorem qN (a b:Str):Ae .eql a b=decide (a=b):=by
 unfold Ae
 rw [Bool.eq_iff_iff]
 simp
theorem PS (a b:Str):Ae .neq a b = !decide (a=b):=by
 rw [← qN];rfl
def dup (nm:Nat→Str):Nat→Str→Bool
 | 0,_=>false
 | i+1,x=>decide (x=nm i)||dup nm i x
def seen (nm:Nat→Str):Nat→List (Str×Bool)
 | 0=>[]
 | i+1=>pI (seen nm i) (nm i) true
theorem G6 (nm:Nat→Str) (x:Str):∀ i,iC false (seen nm i) x=dup nm i x
 | 0=>rfl
 | i+1=>by
  simp only [seen,dup,Cf,G6 nm x i]
  by_cases h:x=nm i <;> simp [h]
theorem Og (nm:Nat→Str) (x:Str):∀ i,dup nm i x=true↔∃ j,j<i∧nm j=x
 | 0=>by simp [dup]
 | i+1=>by
  simp only [dup,Bool.or_eq_true,decide_eq_true_eq,Og nm x i]
  constructor
  ·rintro (h | ⟨j,h1,h2⟩)
   ·exact ⟨i,by omega,h.symm⟩
   ·exact ⟨j,by omega,h2⟩
  ·rintro ⟨j,h1,h2⟩
   by_cases hj:j=i
   ·subst hj;exact .inl h2.symm
   ·exact .inr ⟨j,by omega,h2⟩
def same (nm:Nat→Str) (x:Str) (j:Nat):Int:=if nm j=x then 5 else 0
def WJ (x0:Str) (s1:Int):Option (Int ⊕ (Unit ⊕ Bool)) :=
 bif (aN .lss s1 (List.length x0:Int)) then ((idx x0 s1).bind fun v2=>bif ((!(((aN .geq ((UInt8.toNat v2:Nat):Int) 97)&&(aN .leq ((UInt8.toNat v2:Nat):Int) 122))||((aN .geq ((UInt8.toNat v2:Nat):Int) 65)&&(aN .leq ((UInt8.toNat v2:Nat):Int) 90))))&&((aN .eql s1 0)||((aN .neq ((UInt8.toNat v2:Nat):Int) 45)&&((aN .lss ((UInt8.toNat v2:Nat):Int) 48)||(aN .gtr ((UInt8.toNat v2:Nat):Int) 57))))) then (some (.inr (Sum.inr false))) else (some (.inl (IntKind.i64.wrap (s1+1))))) else (some (.inr (Sum.inl ())))
def Yw (N:Nat) (x0:Str):Option (Bool) :=
 bif ((aN .lss (List.length x0:Int) 1)||(aN .gtr (List.length x0:Int) 12)) then (some false) else ((bZ (WJ x0) N 0).bind fun o5=>Sum.elim (fun l7=>some true) (fun r8=>some r8) o5)
theorem WL {N:Nat} {s:Str} (hN:13≤N):Yw N s=some (kz s):=by
  unfold Yw
  by_cases hlen:s.length<1∨12<s.length
  · have hc:(aN .lss (s.length:Int) 1||aN .gtr (s.length:Int) 12)=true:=by
      simp;omega
    rw [hc,lN]
    congr 1
    unfold kz
    rcases hlen with h | h
    · have : s = [] := List.eq_nil_of_length_eq_zero (by omega)
      subst this;rfl
    · cases s with
      | nil=>rfl
      | cons c r=>simp at h;simp;intro h';omega
  · have hc:(aN .lss (s.length:Int) 1||aN .gtr (s.length:Int) 12)=false:=by
      rw [Bool.or_eq_false_iff];simp;omega
    rw [hc,lM]
    cases s with
    | nil=>simp at hlen
    | cons c r =>
      have hr:r.length<12:=by simp at hlen;omega
      have hbad:∀ i (hi:i<(c :: r).length),((!(((aN .geq ((UInt8.toNat (c :: r)[i]:Nat):Int) 97)&&(aN .leq ((UInt8.toNat (c :: r)[i]:Nat):Int) 122))||((aN .geq ((UInt8.toNat (c :: r)[i]:Nat):Int) 65)&&(aN .leq ((UInt8.toNat (c :: r)[i]:Nat):Int) 90))))&&((aN .eql (i:Int) 0)||((aN .neq ((UInt8.toNat (c :: r)[i]:Nat):Int) 45)&&((aN .lss ((UInt8.toNat (c :: r)[i]:Nat):Int) 48)||(aN .gtr ((UInt8.toNat (c :: r)[i]:Nat):Int) 57))))) =
          !(if i=0 then wP (c :: r)[i] else tH (c :: r)[i]):=by
        intro i hi
        split
        · rename_i h0;subst h0
          simp only [rM,Int.natCast_zero,decide_true,Bool.true_or,Bool.and_true]
          rfl
        · rename_i h0
          rw [rM,show decide ((i:Int)=0)=false by rw [decide_eq_false_iff_not];omega,Bool.false_or]
          unfold tH wP Yb
          simp only [rJ,bH,qo,wS,wE]
          generalize ((UInt8.toNat (c :: r)[i]:Nat):Int)=x
          rw [Bool.eq_iff_iff]
          simp only [Bool.and_eq_true,Bool.or_eq_true,Bool.not_eq_true',Bool.or_eq_false_iff,Bool.and_eq_false_iff,decide_eq_true_eq,decide_eq_false_iff_not]
          omega
      rw [PZ (c :: r).length (if kz (c :: r) then .inl () else .inr false) (fun i=>∀ j (h:j<(c :: r).length),j<i→(if j=0 then wP (c :: r)[j] else tH (c :: r)[j])=true) ?_ ?_ (fun j _ h=>absurd h (Nat.not_lt_zero _)) N (by simp;omega)]
      · cases kz (c :: r) <;> rfl
      · intro i hi hp
        unfold WJ
        rw [bH,show decide ((i:Int)<((c :: r).length:Int))=true by rw [decide_eq_true_eq];omega,lN,ig hi,bS,hbad i hi,nY (show i<9223372036854775807 by simp at hi;omega)]
        cases hg:(if i=0 then wP (c :: r)[i] else tH (c :: r)[i]) with
        | true =>
          refine .inl ⟨rfl,fun j hj hji=>?_⟩
          rcases Nat.lt_succ_iff_lt_or_eq.1 hji with h | rfl
          · exact hp j hj h
          · exact hg
        | false =>
          refine .inr ?_
          have:kz (c :: r)=false:=by
            rw [Bool.eq_false_iff]
            intro h
            simp only [kz,Bool.and_eq_true,decide_eq_true_eq] at h
            obtain ⟨⟨_,h1⟩,h2⟩:=h
            rw [List.all_eq_true] at h2
            cases i with
            | zero=>simp [h1] at hg
            | succ i =>
              simp at hg
              have:=h2 _ (List.getElem_mem (by simpa using hi:i<r.length))
              rw [this] at hg;cases hg
          rw [this];rfl
      · intro hp
        unfold WJ
        rw [bH,show decide ((((c :: r).length:Nat):Int)<((c :: r).length:Int))=false by simp,lM]
        have:kz (c :: r)=true:=by
          simp only [kz,Bool.and_eq_true,decide_eq_true_eq]
          refine ⟨⟨hr,(by have h:=hp 0 (by simp) (by simp);rw [if_pos rfl] at h;exact h)⟩,?_⟩
          rw [List.all_eq_true]
          intro x hx
          obtain ⟨j,hj,rfl⟩:=List.getElem_of_mem hx
          have:=hp (j+1) (by simp;omega) (by simp;omega)
          simpa using this
        rw [this];rfl
theorem MR {N:Nat} {s:Str} (hN:13≤N):wL N s=some (kz s):=WL hN
end Go.KB
namespace Go.KB
set_option linter.unusedVariables false
theorem Ku {O:Type} {n N:Nat} {f:Int→Option (Int ⊕ O)} (R:Nat→O) (hf:∀ i:Nat,i<n→(f (i:Int)=some (.inl ((i+1:Nat):Int))∧R i=R (i+1))∨f (i:Int)=some (.inr (R i))) (he:f (n:Int)=some (.inr (R n))) (hN:n<N):bZ f N 0=some (R 0):=by
 have key:∀ k i,i+k=n→∀ M,k<M→bZ f M (i:Int)=some (R i):=by
  intro k
  induction k with
  | zero =>
   intro i hi M hM
   obtain ⟨M,rfl⟩:∃ m,M=m+1:=⟨M - 1,by omega⟩
   have:i=n:=by omega
   subst this
   simp only [bZ,he]
  | succ k ih =>
   intro i hi M hM
   obtain ⟨M,rfl⟩:∃ m,M=m+1:=⟨M - 1,by omega⟩
   rcases hf i (by omega) with ⟨h1,h2⟩ | h1
   ·simp only [bZ,h1];rw [h2];exact ih (i+1) (by omega) M (by omega)
   ·simp only [bZ,h1]
 exact key n 0 (by omega) N (by omega)
theorem drop_at {α:Type} {l:List α} {i:Nat} (h:i<l.length):l.drop i=l[i] :: l.drop (i+1):=List.drop_eq_getElem_cons h
theorem WM {α:Type} {l:List α} {N:Nat} {f:Int→Option (Int ⊕ (Unit ⊕ Bool))} {g:α→Bool} (hf:∀ (i:Nat) (h:i<l.length),f (i:Int)=bif g l[i] then some (.inl ((i+1:Nat):Int)) else some (.inr (.inr false))) (he:f (l.length:Int)=some (.inr (.inl ()))) (hN:l.length<N) :
  ((bZ f N 0).bind fun o=>Sum.elim (fun _=>some true) (fun r=>some r) o)=some (l.all g):=by
 rw [Ku (fun i=>bif (l.drop i).all g then .inl () else .inr false) (fun i hi=>?_) (by simp [he]) hN]
 ·simp only [List.drop_zero,bS];cases l.all g <;> rfl
 ·rw [hf i hi]
  simp only [drop_at hi,List.all_cons]
  cases g l[i]
  ·exact .inr rfl
  ·exact .inl ⟨rfl,by simp⟩
def Ik {α:Type} (g:α→Bool) (l:List α):Int:=if l.findIdx g<l.length then (l.findIdx g:Int) else -1
theorem uJ {α:Type} {l:List α} {N:Nat} {f:Int→Option (Int ⊕ (Unit ⊕ Int))} {g:α→Bool} (hf:∀ (i:Nat) (h:i<l.length),f (i:Int)=bif g l[i] then some (.inr (.inr (i:Int))) else some (.inl ((i+1:Nat):Int))) (he:f (l.length:Int)=some (.inr (.inl ()))) (hN:l.length<N) :
  ((bZ f N 0).bind fun o=>Sum.elim (fun _=>some (-1:Int)) (fun r=>some r) o)=some (Ik g l):=by
 rw [Ku (fun i=>if (l.drop i).findIdx g<(l.drop i).length then .inr (((i+(l.drop i).findIdx g:Nat)):Int) else .inl ()) (fun i hi=>?_) (by simp [he]) hN]
 ·simp only [List.drop_zero,Nat.zero_add,bS,Ik];split <;> rfl
 ·rw [hf i hi]
  simp only [drop_at hi,List.findIdx_cons]
  cases g l[i]
  ·refine .inl ⟨rfl,?_⟩
   simp only [lM,List.length_cons,Nat.add_lt_add_iff_right]
   split
   ·congr 2;omega
   ·rfl
  ·refine .inr ?_
   simp only [lN,List.length_cons,Nat.zero_lt_succ,if_true,Nat.add_zero]
theorem Ba {α:Type} {g:α→Bool} {l:List α} (h:l.findIdx g<l.length):Ik g l=(l.findIdx g:Int):=if_pos h
theorem Dx {α:Type} {g:α→Bool} {l:List α} (h:¬ l.findIdx g<l.length):Ik g l = -1:=if_neg h
theorem Dw {α:Type} {g:α→Bool} {l:List α}:decide (Ik g l<0) = !l.any g:=by
 have:l.any g=true↔l.findIdx g<l.length:=by
  rw [List.any_eq_true]
  exact List.findIdx_lt_length.symm
 by_cases h:l.findIdx g<l.length
 ·rw [Ba h,this.2 h];simp
 ·rw [Dx h,Bool.eq_false_iff.2 (fun x=>h (this.1 x))];rfl
theorem Aj {N:Nat} {s:Str} (hN:13≤N):nM N s=some (kz s):=by
  unfold nM
  by_cases hlen:s.length<1∨12<s.length
  · have hc : (aN .lss (s.length : Int) 1 || aN .gtr (s.length : Int) 12) = true := by simp; omega
    rw [hc]
    simp only [Bool.not_true,lM,bS,Bool.true_or,lN]
    congr 1
    unfold kz
    rcases hlen with h | h
    · have : s = [] := List.eq_nil_of_length_eq_zero (by omega)
      subst this;rfl
    · cases s with
      | nil=>rfl
      | cons c r=>simp at h;simp;intro h';omega
  · have hc : (aN .lss (s.length : Int) 1 || aN .gtr (s.length : Int) 12) = false := by rw [Bool.or_eq_false_iff]; simp; omega
    rw [hc]
    cases s with
    | nil=>simp at hlen
    | cons c r =>
      have hr:r.length<12:=by simp at hlen;omega
      have hl:∀ x:UInt8,ve N ((UInt8.toNat x:Nat):Int)=some (wP x):=fun x=>rfl
      have h0:idx (c :: r) 0=some c:=by have:=ig (xs:=c :: r) (i:=0) (by simp);simpa using this
      simp only [Bool.not_false,lN,h0,bS,hl,Bool.false_or]
      cases hc:wP c with
      | false=>simp [kz,hc]
      | true =>
        simp only [Bool.not_true,lM]
        have h1:∀ (i:Nat) (hi:i<(c :: r).length),ql N (c :: r) (i:Int)=bif tH (c :: r)[i] then some (.inl ((i+1:Nat):Int)) else some (.inr (.inr false)):=by
          intro i hi
          unfold ql
          rw [bH,dT (by omega),lN,ig hi,bS,hl,bS,nY (show i<9223372036854775807 by simp at hi;omega)]
          have:((!wP (c :: r)[i]&&aN .neq ((UInt8.toNat (c :: r)[i]:Nat):Int) 45)&&(aN .lss ((UInt8.toNat (c :: r)[i]:Nat):Int) 48||aN .gtr ((UInt8.toNat (c :: r)[i]:Nat):Int) 57)) = !tH (c :: r)[i]:=by
            unfold tH Yb
            cases wP (c :: r)[i]
            · simp only [Bool.not_false,Bool.true_and,Bool.false_or,rJ,bH,qo]
              generalize ((UInt8.toNat (c :: r)[i]:Nat):Int)=x
              rw [Bool.eq_iff_iff]
              simp only [Bool.and_eq_true,Bool.or_eq_true,Bool.not_eq_true',Bool.or_eq_false_iff,Bool.and_eq_false_iff,decide_eq_true_eq,decide_eq_false_iff_not]
              omega
            · simp
          rw [this]
          cases tH (c :: r)[i] <;> rfl
        have h2:ql N (c :: r) ((c :: r).length:Int)=some (.inr (.inl ())):=by
          unfold ql
          rw [bH,dF (by omega),lM]
        rw [WM h1 h2 (by simp;omega)]
        simp [kz,hc,tH,hr]
instance:Inhabited bV:=⟨⟨[],false,[]⟩⟩
instance:Inhabited aA:=⟨⟨[],0,[],0,0,[]⟩⟩
instance:Inhabited bF:=⟨⟨0,0,0⟩⟩
def isS (s:Str) (y:bV):Bool:=decide (y.Name=s)
def Lu (s:Str) (y:aA):Bool:=decide (y.Name=s)
theorem Ux {N:Nat} {l:List bV} {f:bV→Option Bool} {g:bV→Bool} (hf:∀ y,f y=some (g y)) (hl:l.length<1000000) (hN:1000000≤N):jh N l f=some (Ik g l):=by
 unfold jh
 refine uJ (fun i hi=>?_) ?_ (by omega)
 ·unfold iU
  rw [bH,dT (by omega),lN,ig hi,bS,hf,bS,nY (by omega)]
 ·unfold iU
  rw [bH,dF (by omega),lM]
theorem MN {N:Nat} {l:List aA} {f:aA→Option Bool} {g:aA→Bool} (hf:∀ y,f y=some (g y)) (hl:l.length<1000000) (hN:1000000≤N):gQ N l f=some (Ik g l):=by
 unfold gQ
 refine uJ (fun i hi=>?_) ?_ (by omega)
 ·unfold iI
  rw [bH,dT (by omega),lN,ig hi,bS,hf,bS,nY (by omega)]
 ·unfold iI
  rw [bH,dF (by omega),lM]
theorem Ir {N:Nat} {p:GPermitPlan} {s:Str} (hl:p.bK.length<1000000) (hN:1000000≤N):tq N p s=some (Ik (isS s) p.bK):=by
 unfold tq
 refine uJ (fun i hi=>?_) ?_ (by omega)
 ·unfold uF
  rw [bH,dT (by omega),lN,ig hi,bS,qN,nY (by omega)];rfl
 ·unfold uF
  rw [bH,dF (by omega),lM]
theorem KL {N:Nat} {p:GPermitPlan} {s:Str} (hl:p.ax.length<1000000) (hN:1000000≤N):uH N p s=some (Ik (Lu s) p.ax):=by
 unfold uH
 refine uJ (fun i hi=>?_) ?_ (by omega)
 ·unfold sF
  rw [bH,dT (by omega),lN,ig hi,bS,qN,nY (by omega)];rfl
 ·unfold sF
  rw [bH,dF (by omega),lM]
def xU {α:Type} (z:α) (g:α→Bool) (l:List α):α×Bool:=match l.find? g with | some y=>(y,true) | none=>(z,false)
theorem Oh {α:Type} {g:α→Bool}:∀ {l:List α},(l.findIdx g<l.length∧∃ h:l.findIdx g<l.length,l.find? g=some l[l.findIdx g])∨(¬ l.findIdx g<l.length∧l.find? g=none):=by
 intro l
 by_cases h:l.findIdx g<l.length
 ·refine .inl ⟨h,h,?_⟩
  exact (List.find?_eq_getElem?_findIdx ..).trans (List.getElem?_eq_getElem h)
 ·refine .inr ⟨h,?_⟩
  rw [List.find?_eq_getElem?_findIdx,List.getElem?_eq_none (by omega)]
theorem xg {N:Nat} {p:GPermitPlan} {s:Str} (hl:p.bK.length<1000000) (hN:1000000≤N):iE N p s=some (xU ⟨[],false,[]⟩ (isS s) p.bK):=by
 unfold iE
 rw [Ux (g:=isS s) (fun y=>by unfold rD;rw [qN];rfl) hl hN,bS,bH]
 unfold xU
 rcases Oh (g:=isS s) (l:=p.bK) with ⟨_,h,h2⟩ | ⟨h,h2⟩
 ·rw [h2,Ba h,dF (by omega),lM,ig h];rfl
 ·rw [h2,Dx h];rfl
theorem Bc {N:Nat} {p:GPermitPlan} {s:Str} (hl:p.ax.length<1000000) (hN:1000000≤N):lU N p s=some (xU ⟨[],0,[],0,0,[]⟩ (Lu s) p.ax):=by
 unfold lU
 rw [MN (g:=Lu s) (fun y=>by unfold qM;rw [qN];rfl) hl hN,bS,bH]
 unfold xU
 rcases Oh (g:=Lu s) (l:=p.ax) with ⟨_,h,h2⟩ | ⟨h,h2⟩
 ·rw [h2,Ba h,dF (by omega),lM,ig h];rfl
 ·rw [h2,Dx h];rfl
theorem ES {α:Type} {z:α} {g:α→Bool} {l:List α}:(xU z g l).2=l.any g:=by
 unfold xU
 cases h:l.find? g with
 | none=>simp only [];rw [eq_comm,Bool.eq_false_iff];intro hx;rw [List.any_eq_true] at hx;obtain ⟨x,hx,hg⟩:=hx;exact absurd hg (by simpa using List.find?_eq_none.1 h x hx)
 | some y=>simp only [];rw [eq_comm,List.any_eq_true];exact ⟨y,List.mem_of_find?_eq_some h,List.find?_some h⟩
end Go.KB
namespace Go.KB
set_option linter.unusedVariables false
def Eu (a b:Int):Int:=if a=0 then b else a
def yB (k:Int):Bool:=decide (0≤k)&&decide (k≤5)
def G7 (p:GPermitPlan) (i:Nat):Str:=p.bK[i]!.Name
def Jm (p:GPermitPlan) (i:Nat):Str:=p.ax[i]!.Name
def zH (p:GPermitPlan) (s:Str):Bool:=p.bK.any (isS s)
def mg (p:GPermitPlan) (s:Str):Bool:=p.ax.any (Lu s)
def qH (p:GPermitPlan) (s:Str):aA:=(xU ⟨[],0,[],0,0,[]⟩ (Lu s) p.ax).1
def yF (p:GPermitPlan) (s:Str):bV:=(xU ⟨[],false,[]⟩ (isS s) p.bK).1
def WG (p:GPermitPlan) (i:Nat):Int:=if kz (G7 p i)=false then 4 else if dup (G7 p) i (G7 p i)=true then 5 else if 30<p.bK[i]!.Next.length then 8 else 0
def eNx (p:GPermitPlan) (y:bV) (j:Nat):Int:=if zH p y.Next[j]! = false then 6 else if y.Next[j]! = y.Name then 3 else 0
def KN (p:GPermitPlan) (i:Nat):Int:=gq (eNx p p.bK[i]!) p.bK[i]!.Next.length 0
def eEx (p:GPermitPlan) (i:Nat):Int:=if yB p.dh[i]!.A=false∨yB p.dh[i]!.B=false∨p.dh[i]!.Reach<0∨2<p.dh[i]!.Reach then 2 else 0
def Yv (p:GPermitPlan) (i:Nat):Int:=if kz (Jm p i)=false then 4 else if dup (Jm p) i (Jm p i)=true then 5 else
 if yB p.ax[i]!.Kind=false∨p.ax[i]!.From<0∨p.ax[i]!.To≤p.ax[i]!.From∨1000000<p.ax[i]!.To then 2 else if zH p p.ax[i]!.Space=false then 6 else if 10<p.ax[i]!.Locks.length then 8 else 0
def eLk (p:GPermitPlan) (y:aA) (j:Nat):Int:=if mg p y.Locks[j]! = false then 6 else if (qH p y.Locks[j]!).Kind≠5∨y.Kind=5 then 3 else 0
def P5 (p:GPermitPlan) (i:Nat):Int:=gq (eLk p p.ax[i]!) p.ax[i]!.Locks.length 0
def qm (p:GPermitPlan):Int:=if 30<p.bK.length∨30<p.dh.length∨20<p.ax.length then 8 else if p.dS<1∨10000<p.dS then 2 else
 Eu (Eu (gq (WG p) p.bK.length 0) (gq (KN p) p.bK.length 0)) (Eu (gq (eEx p) p.dh.length 0) (Eu (gq (Yv p) p.ax.length 0) (gq (P5 p) p.ax.length 0)))
structure Fa (p:GPermitPlan):Prop where
 s:p.bK.length<1000
 x:p.dh.length<1000
 m:p.ax.length<1000
 n:∀ y ∈ p.bK,y.Next.length<1000
 l:∀ y ∈ p.ax,y.Locks.length<1000
theorem Ah {α:Type} [Inhabited α] {l:List α} {i:Nat} (h:i<l.length):l[i]! ∈ l:=by rw [En h];exact List.getElem_mem h
theorem tJ {A:Type} {fin:A} {E:Int} {K:A→Option Int}:((some (sS (Sum.inl fin) (fun e=>Sum.inr e) E):Option (A ⊕ Int)).bind fun o=>Sum.elim (fun l=>K l) (fun r=>some r) o)=if E=0 then K fin else some E:=by
 unfold sS
 by_cases h:E=0
 ·rw [if_pos h,if_pos h];rfl
 ·rw [if_neg h,if_neg h];rfl
theorem Ry {α:Type} [Inhabited α] {nm:α→Str} {x:Str} {l:List α} {i:Nat} (hi:i≤l.length):dup (fun j=>nm l[j]!) i x=(decide (0≤Ik (fun y=>decide (nm y=x)) l)&&decide (Ik (fun y=>decide (nm y=x)) l<(i:Int))):=by
 rw [Bool.eq_iff_iff,Og,Bool.and_eq_true,decide_eq_true_eq,decide_eq_true_eq]
 constructor
 ·rintro ⟨j,hj,hx⟩
  have hjl:j<l.length:=by omega
  rw [En hjl] at hx
  have hle:l.findIdx (fun y=>decide (nm y=x))≤j:=by
   rcases Nat.lt_or_ge j (l.findIdx (fun y=>decide (nm y=x))) with h | h
   ·exact absurd (List.not_of_lt_findIdx h) (by simp [hx])
   ·exact h
  rw [Ba (by omega)]
  omega
 ·rintro ⟨h1,h2⟩
  by_cases h:l.findIdx (fun y=>decide (nm y=x))<l.length
  ·rw [Ba h] at h2
   refine ⟨l.findIdx (fun y=>decide (nm y=x)),by omega,?_⟩
   show nm l[l.findIdx (fun y=>decide (nm y=x))]! = x
   rw [En h]
   have:=List.findIdx_getElem (xs:=l) (p:=fun y=>decide (nm y=x)) (w:=h)
   simpa using this
  ·rw [Dx h] at h1;omega
theorem Yc {α:Type} [Inhabited α] {nm:α→Str} {x:Str} {l:List α}:dup (fun j=>nm l[j]!) l.length x=l.any (fun y=>decide (nm y=x)):=by
 rw [Ry (Nat.le_refl _)]
 have:=Dw (g:=fun y=>decide (nm y=x)) (l:=l)
 by_cases h:l.findIdx (fun y=>decide (nm y=x))<l.length
 ·rw [Ba h] at this ⊢
  rw [dF (by omega)] at this
  rw [dT (by omega),dT (by omega)]
  cases hx:l.any (fun y=>decide (nm y=x)) with
  | true=>rfl
  | false=>rw [hx] at this;cases this
 ·rw [Dx h] at this ⊢
  cases hx:l.any (fun y=>decide (nm y=x)) with
  | false=>rfl
  | true=>rw [hx] at this;cases this
theorem Td {N:Nat} {k:Int}:vH N k=some (yB k):=rfl
theorem WN {N:Nat} {k:Int}:wz N k=some (yB k):=rfl
section
variable {N:Nat} {p:GPermitPlan} (hp:Fa p) (hN:1000000≤N)
include hp hN
theorem cs3:bZ (lX N p) N (([]:List (Str×Bool)),0)=some (sS (.inl (seen (G7 p) p.bK.length)) (fun e=>.inr e) (gq (WG p) p.bK.length 0)):=by
 have hs:=hp.s
 refine MQ (fun i=>(seen (G7 p) i,(i:Int))) (fun i hi _=>?_) (fun _=>?_) (by omega)
 ·unfold lX WG
  simp only []
  rw [bH,dT (by omega),lN,Dq hi,bS,Aj (by omega),bS,G6,nY (by omega),qo]
  show (bif !kz (G7 p i) then _ else bif dup (G7 p) i (G7 p i) then _ else _)=_
  cases kz (G7 p i) with
  | false=>rfl
  | true =>
   cases dup (G7 p) i (G7 p i) with
   | true=>rfl
   | false =>
    by_cases h:30<p.bK[i]!.Next.length
    ·rw [dT (show (30:Int)<(p.bK[i]!.Next.length:Int) by omega),if_pos h];rfl
    ·rw [dF (show ¬ (30:Int)<(p.bK[i]!.Next.length:Int) by omega),if_neg h];rfl
 ·unfold lX
  simp only []
  rw [bH,dF (by omega),lM]
theorem cs1 {y:bV} (hy:y ∈ p.bK):bZ (lZ N (seen (G7 p) p.bK.length) y) N 0=some (sS (.inl ()) (fun e=>.inr e) (gq (eNx p y) y.Next.length 0)):=by
 have hl:=hp.n y hy
 refine vZ (fun i hi _=>?_) (fun _=>?_) (by omega)
 ·unfold lZ eNx
  rw [bH,dT (by omega),lN,Dq hi,bS,G6,show dup (G7 p) p.bK.length y.Next[i]! = zH p y.Next[i]! from Yc,nY (by omega),qN]
  cases zH p y.Next[i]! with
  | false=>rfl
  | true =>
   by_cases h:y.Next[i]! = y.Name
   ·rw [dT h,if_pos h];rfl
   ·rw [dF h,if_neg h];rfl
 ·unfold lZ
  rw [bH,dF (by omega),lM]
theorem cs2:bZ (lY N p (seen (G7 p) p.bK.length)) N 0=some (sS (.inl ()) (fun e=>.inr e) (gq (KN p) p.bK.length 0)):=by
 have hs:=hp.s
 refine vZ (fun i hi _=>?_) (fun _=>?_) (by omega)
 ·unfold lY
  rw [bH,dT (by omega),lN,Dq hi,bS,cs1 hp hN (Ah hi),nY (by omega),bS]
  show Sum.elim _ _ (sS _ _ (KN p i))=_
  unfold sS
  by_cases h:KN p i=0
  ·rw [if_pos h,if_pos h];rfl
  ·rw [if_neg h,if_neg h];rfl
 ·unfold lY
  rw [bH,dF (by omega),lM]
theorem KO:qw N p=some (Eu (gq (WG p) p.bK.length 0) (gq (KN p) p.bK.length 0)):=by
 unfold qw
 rw [cs3 hp hN,tJ,cs2 hp hN,tJ]
 unfold Eu
 split
 ·split
  ·rename_i h;rw [h]
  ·rfl
 ·rfl
theorem rcs3:bZ (mF N p) N 0=some (sS (.inl ()) (fun e=>.inr e) (gq (WG p) p.bK.length 0)):=by
 have hs:=hp.s
 refine vZ (fun i hi _=>?_) (fun _=>?_) (by omega)
 ·unfold mF WG
  rw [bH,dT (by omega),lN,Dq hi,bS,MR (by omega),bS]
  have hd:uG N p (i:Int) (G7 p i)=some (dup (G7 p) i (G7 p i)):=by
   unfold uG
   rw [Ir (by omega) hN,bS,wS,bH]
   exact congrArg some (Ry (nm:=bV.Name) (x:=G7 p i) (l:=p.bK) (Nat.le_of_lt hi)).symm
  rw [bS,show uG N p (i:Int) p.bK[i]!.Name=_ from hd,bS,bS,nY (by omega),qo]
  show (bif !kz (G7 p i) then _ else bif dup (G7 p) i (G7 p i) then _ else _)=_
  cases kz (G7 p i) with
  | false=>rfl
  | true =>
   cases dup (G7 p) i (G7 p i) with
   | true=>rfl
   | false =>
    by_cases h:30<p.bK[i]!.Next.length
    ·rw [dT (show (30:Int)<(p.bK[i]!.Next.length:Int) by omega),if_pos h];rfl
    ·rw [dF (show ¬ (30:Int)<(p.bK[i]!.Next.length:Int) by omega),if_neg h];rfl
 ·unfold mF
  rw [bH,dF (by omega),lM]
theorem rcs1 {i:Nat} (hi:i<p.bK.length):bZ (mJ N p (i:Int)) N 0=some (sS (.inl ()) (fun e=>.inr e) (KN p i)):=by
 have hl:=hp.n _ (Ah hi)
 have hs:=hp.s
 refine vZ (fun j hj _=>?_) (fun _=>?_) (by omega)
 ·unfold mJ eNx
  rw [Dq hi,bS,bH,dT (by omega),lN,bS,Dq hj,bS,Ir (by omega) hN,bS,bH,Dw,bS,Dq hj,bS,bS,nY (by omega),qN]
  show (bif !zH p _ then _ else _)=_
  cases zH p p.bK[i]!.Next[j]! with
  | false=>rfl
  | true =>
   by_cases h:p.bK[i]!.Next[j]! = p.bK[i]!.Name
   ·rw [dT h,if_pos h];rfl
   ·rw [dF h,if_neg h];rfl
 ·unfold mJ
  rw [Dq hi,bS,bH,dF (by omega),lM]
theorem rcs2:bZ (mG N p) N 0=some (sS (.inl ()) (fun e=>.inr e) (gq (KN p) p.bK.length 0)):=by
 have hs:=hp.s
 refine vZ (fun i hi _=>?_) (fun _=>?_) (by omega)
 ·unfold mG
  rw [bH,dT (by omega),lN,rcs1 hp hN hi,nY (by omega),bS]
  unfold sS
  by_cases h:KN p i=0
  ·rw [if_pos h,if_pos h];rfl
  ·rw [if_neg h,if_neg h];rfl
 ·unfold mG
  rw [bH,dF (by omega),lM]
theorem Jb:qL N p=some (Eu (gq (WG p) p.bK.length 0) (gq (KN p) p.bK.length 0)):=by
 unfold qL
 rw [rcs3 hp hN,tJ,rcs2 hp hN,tJ]
 unfold Eu
 split
 ·split
  ·rename_i h;rw [h]
  ·rfl
 ·rfl
omit hp hN in
theorem ex_eq {a b:Bool} {r:Int}:((((!a)||(!(bif !(!a) then b else false)))||(aN .lss r 0))||(aN .gtr r 2))=decide (a=false∨b=false∨r<0∨2<r):=by
 rw [Bool.eq_iff_iff,bH,qo]
 cases a <;> cases b <;> simp
omit hN in
theorem exL (hN2:p.dh.length<N):bZ (nG N p) N 0=some (sS (.inl ()) (fun e=>.inr e) (gq (eEx p) p.dh.length 0)):=by
 have hs:=hp.x
 refine vZ (fun i hi _=>?_) (fun _=>?_) hN2
 ·unfold nG eEx
  simp only [Td]
  rw [bH,dT (by omega),lN,Dq hi,bS,bS,LC,bS,nY (by omega),ex_eq]
  by_cases h:yB p.dh[i]!.A=false∨yB p.dh[i]!.B=false∨p.dh[i]!.Reach<0∨2<p.dh[i]!.Reach
  ·rw [dT h,if_pos h];rfl
  ·rw [dF h,if_neg h];rfl
 ·unfold nG
  rw [bH,dF (by omega),lM]
omit hN in
theorem rexL (hN2:p.dh.length<N):bZ (sH N p) N 0=some (sS (.inl ()) (fun e=>.inr e) (gq (eEx p) p.dh.length 0)):=exL hp hN2
omit hp hN in
theorem Yx {a:Bool} {x y:Int}:((((!a)||(aN .lss x 0))||(aN .geq x y))||(aN .gtr y 1000000))=decide (a=false∨x<0∨y≤x∨1000000<y):=by
 rw [Bool.eq_iff_iff,bH,qo,wS]
 cases a <;> simp [or_assoc]
theorem pm3:bZ (lF N p) N (([]:List (Str×Bool)),0)=some (sS (.inl ()) (fun e=>.inr e) (gq (Yv p) p.ax.length 0)):=by
 have hs:=hp.s
 have hm:=hp.m
 refine MQ (fun i=>(seen (Jm p) i,(i:Int))) (fun i hi _=>?_) (fun _=>?_) (by omega)
 ·unfold lF Yv
  simp only []
  rw [bH,dT (by omega),lN,Dq hi,bS,xg (by omega) hN,bS,Aj (by omega),bS,G6,nY (by omega),Td,bS,Yx,ES,qo]
  show (bif !kz (Jm p i) then _ else bif dup (Jm p) i (Jm p i) then _ else bif _ then _ else bif !zH p p.ax[i]!.Space then _ else _)=_
  cases kz (Jm p i) with
  | false=>rfl
  | true =>
   cases dup (Jm p) i (Jm p i) with
   | true=>rfl
   | false =>
    by_cases h:yB p.ax[i]!.Kind=false∨p.ax[i]!.From<0∨p.ax[i]!.To≤p.ax[i]!.From∨1000000<p.ax[i]!.To
    ·rw [dT h,if_pos h];rfl
    ·rw [dF h,if_neg h]
     cases zH p p.ax[i]!.Space with
     | false=>rfl
     | true =>
      by_cases h:10<p.ax[i]!.Locks.length
      ·rw [dT (show (10:Int)<(p.ax[i]!.Locks.length:Int) by omega),if_pos h];rfl
      ·rw [dF (show ¬ (10:Int)<(p.ax[i]!.Locks.length:Int) by omega),if_neg h];rfl
 ·unfold lF
  simp only []
  rw [bH,dF (by omega),lM]
theorem rpm3:bZ (oG N p) N 0=some (sS (.inl ()) (fun e=>.inr e) (gq (Yv p) p.ax.length 0)):=by
 have hs:=hp.s
 have hm:=hp.m
 refine vZ (fun i hi _=>?_) (fun _=>?_) (by omega)
 ·unfold oG Yv
  have hd:aN .lss (Ik (Lu p.ax[i]!.Name) p.ax) (i:Int)=dup (Jm p) i (Jm p i):=by
   have h1:=Ry (nm:=aA.Name) (x:=Jm p i) (l:=p.ax) (Nat.le_of_lt hi)
   have h2:(0:Int)≤Ik (Lu p.ax[i]!.Name) p.ax:=by
    have:=Dw (g:=Lu p.ax[i]!.Name) (l:=p.ax)
    have h3:p.ax.any (Lu p.ax[i]!.Name)=true:=List.any_eq_true.2 ⟨_,Ah hi,by simp [Lu]⟩
    rw [h3] at this
    simpa using this
   rw [bH]
   show _=dup (fun j=>p.ax[j]!.Name) i (Jm p i)
   rw [h1]
   show _=(decide ((0:Int)≤Ik (Lu p.ax[i]!.Name) p.ax)&&decide (Ik (Lu p.ax[i]!.Name) p.ax<(i:Int)))
   rw [dT h2,Bool.true_and]
  rw [bH,dT (by omega),lN,Dq hi,bS,MR (by omega),bS,KL (by omega) hN,bS,hd,WN,bS,Yx,Ir (by omega) hN,bS,bH,Dw,qo,nY (by omega)]
  show (bif !kz (Jm p i) then _ else bif dup (Jm p) i (Jm p i) then _ else bif _ then _ else bif !zH p p.ax[i]!.Space then _ else _)=_
  cases kz (Jm p i) with
  | false=>rfl
  | true =>
   cases dup (Jm p) i (Jm p i) with
   | true=>rfl
   | false =>
    by_cases h:yB p.ax[i]!.Kind=false∨p.ax[i]!.From<0∨p.ax[i]!.To≤p.ax[i]!.From∨1000000<p.ax[i]!.To
    ·rw [dT h,if_pos h];rfl
    ·rw [dF h,if_neg h]
     cases zH p p.ax[i]!.Space with
     | false=>rfl
     | true =>
      by_cases h:10<p.ax[i]!.Locks.length
      ·rw [dT (show (10:Int)<(p.ax[i]!.Locks.length:Int) by omega),if_pos h];rfl
      ·rw [dF (show ¬ (10:Int)<(p.ax[i]!.Locks.length:Int) by omega),if_neg h];rfl
 ·unfold oG
  rw [bH,dF (by omega),lM]
omit hp hN in
theorem Yy {a b:Int}:((aN .neq a 5)||(aN .eql b 5))=decide (a≠5∨b=5):=by
 rw [Bool.eq_iff_iff,rJ,rM];simp
theorem lk1 {y:aA} (hy:y ∈ p.ax):bZ (lH N p y) N 0=some (sS (.inl ()) (fun e=>.inr e) (gq (eLk p y) y.Locks.length 0)):=by
 have hm:=hp.m
 have hl:=hp.l y hy
 refine vZ (fun i hi _=>?_) (fun _=>?_) (by omega)
 ·unfold lH eLk
  rw [bH,dT (by omega),lN,Dq hi,bS,Bc (by omega) hN,bS,ES,Yy,nY (by omega)]
  show (bif !mg p y.Locks[i]! then _ else bif decide ((qH p y.Locks[i]!).Kind≠5∨y.Kind=5) then _ else _)=_
  cases mg p y.Locks[i]! with
  | false=>rfl
  | true =>
   by_cases h:(qH p y.Locks[i]!).Kind≠5∨y.Kind=5
   ·rw [dT h,if_pos h];rfl
   ·rw [dF h,if_neg h];rfl
 ·unfold lH
  rw [bH,dF (by omega),lM]
theorem lk2:bZ (lG N p) N 0=some (sS (.inl ()) (fun e=>.inr e) (gq (P5 p) p.ax.length 0)):=by
 have hm:=hp.m
 refine vZ (fun i hi _=>?_) (fun _=>?_) (by omega)
 ·unfold lG
  rw [bH,dT (by omega),lN,Dq hi,bS,lk1 hp hN (Ah hi),nY (by omega),bS]
  show Sum.elim _ _ (sS _ _ (P5 p i))=_
  unfold sS
  by_cases h:P5 p i=0
  ·rw [if_pos h,if_pos h];rfl
  ·rw [if_neg h,if_neg h];rfl
 ·unfold lG
  rw [bH,dF (by omega),lM]
theorem rlk1 {y:aA} (hy:y ∈ p.ax):bZ (oI N p y) N 0=some (sS (.inl ()) (fun e=>.inr e) (gq (eLk p y) y.Locks.length 0)):=by
 have hm:=hp.m
 have hl:=hp.l y hy
 refine vZ (fun i hi _=>?_) (fun _=>?_) (by omega)
 ·unfold oI eLk
  rw [bH,dT (by omega),lN,Dq hi,bS,KL (by omega) hN,bS,bH,Dw,nY (by omega)]
  show (bif !mg p y.Locks[i]! then _ else _)=_
  cases hx:mg p y.Locks[i]! with
  | false=>rfl
  | true =>
   rw [Bool.not_true,lM]
   have hg:idx p.ax (Ik (Lu y.Locks[i]!) p.ax)=some (qH p y.Locks[i]!):=by
    unfold qH xU
    rcases Oh (g:=Lu y.Locks[i]!) (l:=p.ax) with ⟨_,h,h2⟩ | ⟨h,h2⟩
    ·rw [h2,Ba h,ig h]
    ·have:=Dw (g:=Lu y.Locks[i]!) (l:=p.ax)
     rw [show p.ax.any (Lu y.Locks[i]!)=true from hx,Dx h] at this
     cases this
   rw [hg,bS,Yy]
   by_cases h:(qH p y.Locks[i]!).Kind≠5∨y.Kind=5
   ·rw [dT h,if_pos h];rfl
   ·rw [dF h,if_neg h];rfl
 ·unfold oI
  rw [bH,dF (by omega),lM]
theorem rlk2:bZ (oH N p) N 0=some (sS (.inl ()) (fun e=>.inr e) (gq (P5 p) p.ax.length 0)):=by
 have hm:=hp.m
 refine vZ (fun i hi _=>?_) (fun _=>?_) (by omega)
 ·unfold oH
  rw [bH,dT (by omega),lN,Dq hi,bS,rlk1 hp hN (Ah hi),nY (by omega),bS]
  show Sum.elim _ _ (sS _ _ (P5 p i))=_
  unfold sS
  by_cases h:P5 p i=0
  ·rw [if_pos h,if_pos h];rfl
  ·rw [if_neg h,if_neg h];rfl
 ·unfold oH
  rw [bH,dF (by omega),lM]
theorem Jc:pW N p=some (Eu (gq (Yv p) p.ax.length 0) (gq (P5 p) p.ax.length 0)):=by
 unfold pW
 rw [pm3 hp hN,tJ,lk2 hp hN,tJ]
 unfold Eu
 split
 ·split
  ·rename_i h;rw [h]
  ·rfl
 ·rfl
omit hp hN in
theorem WO:(((aN .gtr (List.length p.bK:Int) 30)||(aN .gtr (List.length p.dh:Int) 30))||(aN .gtr (List.length p.ax:Int) 20))=decide (30<p.bK.length∨30<p.dh.length∨20<p.ax.length):=by
 rw [Bool.eq_iff_iff];simp only [qo,Bool.or_eq_true,decide_eq_true_eq];omega
omit hp hN in
theorem WQ {g:Int}:((aN .lss g 1)||(aN .gtr g 10000))=decide (g<1∨10000<g):=by
 rw [Bool.eq_iff_iff];simp
theorem GV:nU N p=some (qm p):=by
  have hx:=hp.x
  unfold nU qm
  rw [WO,WQ]
  by_cases h:30<p.bK.length∨30<p.dh.length∨20<p.ax.length
  · rw [dT h,if_pos h];rfl
  · rw [dF h,if_neg h,lM]
    by_cases h:p.dS<1∨10000<p.dS
    · rw [dT h,if_pos h];rfl
    · rw [dF h,if_neg h,lM,KO hp hN,bS,rJ]
      generalize Eu (gq (WG p) p.bK.length 0) (gq (KN p) p.bK.length 0)=E
      unfold Eu
      by_cases h:E=0
      · rw [dT h, if_pos h, Bool.not_true, lM, exL hp (by omega), tJ, Jc hp hN]
        unfold Eu
        split
        · rfl
        · rfl
      · rw [dF h,if_neg h];rfl
theorem LD:sG N p=some (qm p):=by
  have hx:=hp.x
  unfold sG qm
  rw [WO,WQ]
  by_cases h:30<p.bK.length∨30<p.dh.length∨20<p.ax.length
  · rw [dT h,if_pos h];rfl
  · rw [dF h,if_neg h,lM]
    by_cases h:p.dS<1∨10000<p.dS
    · rw [dT h,if_pos h];rfl
    · rw [dF h,if_neg h,lM,Jb hp hN,bS,rJ]
      generalize Eu (gq (WG p) p.bK.length 0) (gq (KN p) p.bK.length 0)=E
      unfold Eu
      by_cases h:E=0
      · rw [dT h, if_pos h, Bool.not_true, lM, rexL hp (by omega), tJ, rpm3 hp hN, tJ, rlk2 hp hN, tJ]
        split
        · split
          · split
            · rename_i h1 h2 h3;rw [h3]
            · rfl
          · rfl
        · rfl
      · rw [dF h,if_neg h];rfl
end
end Go.KB
namespace Go.KB
set_option linter.unusedVariables false
theorem WR {N:Nat} (p:GPermitPlan) (hN:1000000≤N):vG N p=some true∨(vG N p=some false∧Fa p∧p.bK.length≤40∧p.dh.length≤40∧p.ax.length≤30∧(∀ y ∈ p.bK,y.Next.length≤40∧y.Name.length≤40)∧∀ y ∈ p.ax,y.Locks.length≤20∧y.Name.length≤40):=by
  unfold vG
  have hb:(((aN .gtr (List.length p.bK:Int) 40)||(aN .gtr (List.length p.dh:Int) 40))||(aN .gtr (List.length p.ax:Int) 30))=decide (40<p.bK.length∨40<p.dh.length∨30<p.ax.length):=by
    rw [Bool.eq_iff_iff];simp only [qo,Bool.or_eq_true,decide_eq_true_eq];omega
  rw [hb]
  by_cases h:40<p.bK.length∨40<p.dh.length∨30<p.ax.length
  · rw [dT h];exact .inl rfl
  rw [dF h,lM]
  have hs:∀ (i:Nat) (hi:i<p.bK.length),oC N p (i:Int)=bif (decide (40<p.bK[i].Next.length)||decide (40<p.bK[i].Name.length)) then some (.inr (.inr true)) else some (.inl ((i+1:Nat):Int)):=by
    intro i hi
    unfold oC
    rw [bH,dT (by omega),lN,ig hi,bS,nY (by omega)]
    simp only [qo]
    by_cases h1:40<p.bK[i].Next.length
    · rw [dT h1,dT (show (40:Int)<(p.bK[i].Next.length:Int) by omega)];rfl
    · rw [dF h1, dF (show ¬ (40 : Int) < (p.bK[i].Next.length : Int) by omega), Bool.not_false, lN, bS, Bool.false_or, Bool.false_or]
      by_cases h2:40<p.bK[i].Name.length
      · rw [dT h2,dT (show (40:Int)<(p.bK[i].Name.length:Int) by omega)]
      · rw [dF h2,dF (show ¬ (40:Int)<(p.bK[i].Name.length:Int) by omega)]
  have hs2:oC N p (p.bK.length:Int)=some (.inr (.inl ())):=by
    unfold oC
    rw [bH,dF (by omega),lM]
  have hm:∀ (i:Nat) (hi:i<p.ax.length),oD N p (i:Int)=bif (decide (20<p.ax[i].Locks.length)||decide (40<p.ax[i].Name.length)) then some (.inr (.inr true)) else some (.inl ((i+1:Nat):Int)):=by
    intro i hi
    unfold oD
    rw [bH,dT (by omega),lN,ig hi,bS,nY (by omega)]
    simp only [qo]
    by_cases h1:20<p.ax[i].Locks.length
    · rw [dT h1,dT (show (20:Int)<(p.ax[i].Locks.length:Int) by omega)];rfl
    · rw [dF h1, dF (show ¬ (20 : Int) < (p.ax[i].Locks.length : Int) by omega), Bool.not_false, lN, bS, Bool.false_or, Bool.false_or]
      by_cases h2:40<p.ax[i].Name.length
      · rw [dT h2,dT (show (40:Int)<(p.ax[i].Name.length:Int) by omega)]
      · rw [dF h2,dF (show ¬ (40:Int)<(p.ax[i].Name.length:Int) by omega)]
  have hm2:oD N p (p.ax.length:Int)=some (.inr (.inl ())):=by
    unfold oD
    rw [bH,dF (by omega),lM]
  have e1:=Ku (N:=N) (fun i=>bif (p.bK.drop i).any (fun y=>decide (40<y.Next.length)||decide (40<y.Name.length)) then .inr true else .inl ()) (f:=oC N p) (n:=p.bK.length) (fun i hi=>by
    rw [hs i hi]
    simp only [drop_at hi,List.any_cons]
    cases (decide (40<p.bK[i].Next.length)||decide (40<p.bK[i].Name.length))
    · exact .inl ⟨rfl,by simp⟩
    · exact .inr rfl) (by rw [hs2];simp) (by omega)
  have e2:=Ku (N:=N) (fun i=>bif (p.ax.drop i).any (fun y=>decide (20<y.Locks.length)||decide (40<y.Name.length)) then .inr true else .inl ()) (f:=oD N p) (n:=p.ax.length) (fun i hi=>by
    rw [hm i hi]
    simp only [drop_at hi,List.any_cons]
    cases (decide (20<p.ax[i].Locks.length)||decide (40<p.ax[i].Name.length))
    · exact .inl ⟨rfl,by simp⟩
    · exact .inr rfl) (by rw [hm2];simp) (by omega)
  rw [e1,e2]
  simp only [List.drop_zero,bS]
  cases ha:p.bK.any (fun y=>decide (40<y.Next.length)||decide (40<y.Name.length)) with
  | true=>exact .inl rfl
  | false =>
    cases hc:p.ax.any (fun y=>decide (20<y.Locks.length)||decide (40<y.Name.length)) with
    | true=>exact .inl rfl
    | false =>
      have ha':∀ y ∈ p.bK,y.Next.length≤40∧y.Name.length≤40:=fun y hy=>by
        have:=List.any_eq_false.1 ha y hy
        simp only [Bool.or_eq_true,decide_eq_true_eq,not_or] at this
        omega
      have hc':∀ y ∈ p.ax,y.Locks.length≤20∧y.Name.length≤40:=fun y hy=>by
        have:=List.any_eq_false.1 hc y hy
        simp only [Bool.or_eq_true,decide_eq_true_eq,not_or] at this
        omega
      exact .inr ⟨rfl,⟨by omega,by omega,by omega,fun y hy=>by have:=(ha' y hy).1;omega,fun y hy=>by have:=(hc' y hy).1;omega⟩,by omega,by omega,by omega,ha',hc'⟩
end Go.KB
