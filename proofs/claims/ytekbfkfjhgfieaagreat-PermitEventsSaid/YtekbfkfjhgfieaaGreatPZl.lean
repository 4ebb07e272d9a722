/- Plain laws of chapter 7: loops, names, sets of names. Plain laws of chapter 7: searches, names, places of spaces and permits. Plain laws of chapter 7: CheckPlan. Plain laws of chapter 7: which plans are looked at. No condition. -/
import Derived.Test.YtekbfkfjhgfieaaGreatPZa
import Derived.Test.YtekbfkfjhgfieaaGreatGPure
namespace Go.KB
set_option linter.unusedVariables false
theorem w64i {n:Int} (h0:-9223372036854775808≤n) (h1:n≤9223372036854775807):IntKind.i64.wrap n=n:=Ia h0 h1
theorem dT {p:Prop} [Decidable p] (h:p):decide p=true:=decide_eq_true h
theorem dF {p:Prop} [Decidable p] (h:¬p):decide p=false:=decide_eq_false h
def iJ (e:Nat→Int):Nat→Nat→Int
 | 0,_=>0
 | k+1,i=>if e i=0 then iJ e k (i+1) else e i
theorem Ey {e:Nat→Int}:∀ {k i:Nat},iJ e k i=0→∀ j,i≤j→j<i+k→e j=0:=by
 intro k
 induction k with
 | zero=>intro i _ j h1 h2;omega
 | succ k ih =>
  intro i h j h1 h2
  simp only [iJ] at h
  split at h
  ·rename_i h0
   rcases Nat.eq_or_lt_of_le h1 with rfl | h1
   ·exact h0
   ·exact ih h j h1 (by omega)
  ·rename_i h0;exact absurd h h0
def vJ {O:Type} (fin:O) (err:Int→O) (z:Int):O:=if z=0 then fin else err z
theorem LP {e:Nat→Int} {k i:Nat} (h:e i=0):iJ e (k+1) i=iJ e k (i+1):=by simp [iJ,h]
theorem LQ {e:Nat→Int} {k i:Nat} (h:e i≠0):iJ e (k+1) i=e i:=by simp [iJ,h]
theorem yV {O:Type} {n N:Nat} {f:Int→Option (Int ⊕ O)} {e:Nat→Int} {fin:O} {err:Int→O} (hf:∀ i:Nat,i<n→(∀ j,j<i→e j=0)→f (i:Int)=if e i=0 then some (.inl ((i+1:Nat):Int)) else some (.inr (err (e i)))) (he:(∀ j,j<n→e j=0)→f (n:Int)=some (.inr fin)) (hN:n<N) :
  dU f N 0=some (vJ fin err (iJ e n 0)):=by
 have key:∀ k i,i+k=n→(∀ j,j<i→e j=0)→∀ M,k<M→dU f M (i:Int)=some (vJ fin err (iJ e k i)):=by
  intro k
  induction k with
  | zero =>
   intro i hi hz M hM
   obtain ⟨M,rfl⟩:∃ m,M=m+1:=⟨M - 1,by omega⟩
   have:i=n:=by omega
   subst this
   simp only [dU,he hz,iJ];rfl
  | succ k ih =>
   intro i hi hz M hM
   obtain ⟨M,rfl⟩:∃ m,M=m+1:=⟨M - 1,by omega⟩
   simp only [dU,hf i (by omega) hz]
   by_cases h0:e i=0
   ·rw [if_pos h0,LP h0]
    exact ih (i+1) (by omega) (fun j hj=>by
     rcases Nat.lt_succ_iff_lt_or_eq.1 hj with h | rfl
     ·exact hz j h
     ·exact h0) M (by omega)
   ·rw [if_neg h0,LQ h0]
    unfold vJ
    rw [if_neg h0]
 exact key n 0 (by omega) (fun j hj=>absurd hj (Nat.not_lt_zero _)) N (by omega)
theorem PS {S O:Type} {n N:Nat} {f:S→Option (S ⊕ O)} {e:Nat→Int} {fin:O} {err:Int→O} (g:Nat→S) (hf:∀ i:Nat,i<n→(∀ j,j<i→e j=0)→f (g i)=if e i=0 then some (.inl (g (i+1))) else some (.inr (err (e i)))) (he:(∀ j,j<n→e j=0)→f (g n)=some (.inr fin)) (hN:n<N) :
  dU f N (g 0)=some (vJ fin err (iJ e n 0)):=by
 have key:∀ k i,i+k=n→(∀ j,j<i→e j=0)→∀ M,k<M→dU f M (g i)=some (vJ fin err (iJ e k i)):=by
  intro k
  induction k with
  | zero =>
   intro i hi hz M hM
   obtain ⟨M,rfl⟩:∃ m,M=m+1:=⟨M - 1,by omega⟩
   have:i=n:=by omega
   subst this
   simp only [dU,he hz,iJ];rfl
  | succ k ih =>
   intro i hi hz M hM
   obtain ⟨M,rfl⟩:∃ m,M=m+1:=⟨M - 1,by omega⟩
   simp only [dU,hf i (by omega) hz]
   by_cases h0:e i=0
   ·rw [if_pos h0,LP h0]
    exact ih (i+1) (by omega) (fun j hj=>by
     rcases Nat.lt_succ_iff_lt_or_eq.1 hj with h | rfl
     ·exact hz j h
     ·exact h0) M (by omega)
   ·rw [if_neg h0,LQ h0]
    unfold vJ
    rw [if_neg h0]
 exact key n 0 (by omega) (fun j hj=>absurd hj (Nat.not_lt_zero _)) N (by omega)
theorem BH {α:Type} [Inhabited α] {l:List α} {i:Nat} (h:i<l.length):l[i]! = l[i]:=by simp [h]
theorem zk {α:Type} [Inhabited α] {l:List α} {i:Nat} (h:i<l.length):idx l (i:Int)=some l[i]!:=by rw [ji h,BH h]
theorem OU {α:Type} {b:Bool} {x y:α}:(bif b then some x else some y)=some (bif b then x else y):=by cases b <;> rfl
theorem EX {α β:Type} [DecidableEq α] (z:β) (x k:α) (y:β):∀ m:List (α×β),je z (rE m x y) k=if k=x then y else je z m k
 | []=>by
  by_cases h:k=x
  ·subst h;simp [je,rE]
  ·simp [je,rE,h]
 | p :: r=>by
  by_cases hp:x=p.1
  ·subst hp
   by_cases h:k=p.1
   ·subst h;simp [je,rE]
   ·simp [je,rE,h]
  ·by_cases h : k = p.1
   ·subst h;simp [je,rE,hp,Ne.symm hp]
   ·simp [je,rE,hp,h,EX z x k y r]
theorem qM (a b:Str):yK .eql a b=decide (a=b):=by
 unfold yK
 rw [Bool.eq_iff_iff]
 simp
theorem SY (a b:Str):yK .neq a b = !decide (a=b):=by
 rw [← qM];rfl
def dup (nm:Nat→Str):Nat→Str→Bool
 | 0,_=>false
 | i+1,x=>decide (x=nm i)||dup nm i x
def seen (nm:Nat→Str):Nat→List (Str×Bool)
 | 0=>[]
 | i+1=>rE (seen nm i) (nm i) true
theorem JS (nm:Nat→Str) (x:Str):∀ i,je false (seen nm i) x=dup nm i x
 | 0=>rfl
 | i+1=>by
  simp only [seen,dup,EX,JS nm x i]
  by_cases h:x=nm i <;> simp [h]
theorem QM (nm:Nat→Str) (x:Str):∀ i,dup nm i x=true↔∃ j,j<i∧nm j=x
 | 0=>by simp [dup]
 | i+1=>by
  simp only [dup,Bool.or_eq_true,decide_eq_true_eq,QM nm x i]
  constructor
  ·rintro (h | ⟨j,h1,h2⟩)
   ·exact ⟨i,by omega,h.symm⟩
   ·exact ⟨j,by omega,h2⟩
  ·rintro ⟨j,h1,h2⟩
   by_cases hj:j=i
   ·subst hj;exact .inl h2.symm
   ·exact .inr ⟨j,by omega,h2⟩
def same (nm:Nat→Str) (x:Str) (j:Nat):Int:=if nm j=x then 5 else 0
def YW (x0:Str) (s1:Int):Option (Int ⊕ (Unit ⊕ Bool)) :=
 bif (aF .lss s1 (List.length x0:Int)) then ((idx x0 s1).bind fun v2=>bif ((!(((aF .geq ((UInt8.toNat v2:Nat):Int) 97)&&(aF .leq ((UInt8.toNat v2:Nat):Int) 122))||((aF .geq ((UInt8.toNat v2:Nat):Int) 65)&&(aF .leq ((UInt8.toNat v2:Nat):Int) 90))))&&((aF .eql s1 0)||((aF .neq ((UInt8.toNat v2:Nat):Int) 45)&&((aF .lss ((UInt8.toNat v2:Nat):Int) 48)||(aF .gtr ((UInt8.toNat v2:Nat):Int) 57))))) then (some (.inr (Sum.inr false))) else (some (.inl (IntKind.i64.wrap (s1+1))))) else (some (.inr (Sum.inl ())))
def nameF (N:Nat) (x0:Str):Option (Bool) :=
 bif ((aF .lss (List.length x0:Int) 1)||(aF .gtr (List.length x0:Int) 12)) then (some false) else ((dU (YW x0) N 0).bind fun o5=>Sum.elim (fun l7=>some true) (fun r8=>some r8) o5)
theorem YX {N:Nat} {s:Str} (hN:13≤N):nameF N s=some (lm s):=by
  unfold nameF
  by_cases hlen:s.length<1∨12<s.length
  · have hc:(aF .lss (s.length:Int) 1||aF .gtr (s.length:Int) 12)=true:=by
      simp;omega
    rw [hc,cond_true]
    congr 1
    unfold lm
    rcases hlen with h | h
    · have : s = [] := List.eq_nil_of_length_eq_zero (by omega)
      subst this;rfl
    · cases s with
      | nil=>rfl
      | cons c r=>simp at h;simp;intro h';omega
  · have hc:(aF .lss (s.length:Int) 1||aF .gtr (s.length:Int) 12)=false:=by
      rw [Bool.or_eq_false_iff];simp;omega
    rw [hc,cond_false]
    cases s with
    | nil=>simp at hlen
    | cons c r =>
      have hr:r.length<12:=by simp at hlen;omega
      have hbad:∀ i (hi:i<(c :: r).length),((!(((aF .geq ((UInt8.toNat (c :: r)[i]:Nat):Int) 97)&&(aF .leq ((UInt8.toNat (c :: r)[i]:Nat):Int) 122))||((aF .geq ((UInt8.toNat (c :: r)[i]:Nat):Int) 65)&&(aF .leq ((UInt8.toNat (c :: r)[i]:Nat):Int) 90))))&&((aF .eql (i:Int) 0)||((aF .neq ((UInt8.toNat (c :: r)[i]:Nat):Int) 45)&&((aF .lss ((UInt8.toNat (c :: r)[i]:Nat):Int) 48)||(aF .gtr ((UInt8.toNat (c :: r)[i]:Nat):Int) 57))))) =
          !(if i=0 then zD (c :: r)[i] else vY (c :: r)[i]):=by
        intro i hi
        split
        · rename_i h0;subst h0
          simp only [jr,Int.natCast_zero,decide_true,Bool.true_or,Bool.and_true]
          rfl
        · rename_i h0
          rw [jr,show decide ((i:Int)=0)=false by rw [decide_eq_false_iff_not];omega,Bool.false_or]
          unfold vY zD chr
          simp only [uK,bQ,sG,Am,vG]
          generalize ((UInt8.toNat (c :: r)[i]:Nat):Int)=x
          rw [Bool.eq_iff_iff]
          simp only [Bool.and_eq_true,Bool.or_eq_true,Bool.not_eq_true',Bool.or_eq_false_iff,Bool.and_eq_false_iff,decide_eq_true_eq,decide_eq_false_iff_not]
          omega
      rw [Ti (c :: r).length (if lm (c :: r) then .inl () else .inr false) (fun i=>∀ j (h:j<(c :: r).length),j<i→(if j=0 then zD (c :: r)[j] else vY (c :: r)[j])=true) ?_ ?_ (fun j _ h=>absurd h (Nat.not_lt_zero _)) N (by simp;omega)]
      · cases lm (c :: r) <;> rfl
      · intro i hi hp
        unfold YW
        rw [bQ,show decide ((i:Int)<((c :: r).length:Int))=true by rw [decide_eq_true_eq];omega,cond_true,ji hi,bS,hbad i hi,qw (show i<9223372036854775807 by simp at hi;omega)]
        cases hg:(if i=0 then zD (c :: r)[i] else vY (c :: r)[i]) with
        | true =>
          refine .inl ⟨rfl,fun j hj hji=>?_⟩
          rcases Nat.lt_succ_iff_lt_or_eq.1 hji with h | rfl
          · exact hp j hj h
          · exact hg
        | false =>
          refine .inr ?_
          have:lm (c :: r)=false:=by
            rw [Bool.eq_false_iff]
            intro h
            simp only [lm,Bool.and_eq_true,decide_eq_true_eq] at h
            obtain ⟨⟨_,h1⟩,h2⟩:=h
            rw [List.all_eq_true] at h2
            cases i with
            | zero=>simp [h1] at hg
            | succ i =>
              simp at hg
              have:=h2 _ (List.getElem_mem (by simpa using hi:i<r.length))
              rw [this] at hg;cases hg
          rw [this];rfl
      · intro hp
        unfold YW
        rw [bQ,show decide ((((c :: r).length:Nat):Int)<((c :: r).length:Int))=false by simp,cond_false]
        have:lm (c :: r)=true:=by
          simp only [lm,Bool.and_eq_true,decide_eq_true_eq]
          refine ⟨⟨hr,(by have h:=hp 0 (by simp) (by simp);rw [if_pos rfl] at h;exact h)⟩,?_⟩
          rw [List.all_eq_true]
          intro x hx
          obtain ⟨j,hj,rfl⟩:=List.getElem_of_mem hx
          have:=hp (j+1) (by simp;omega) (by simp;omega)
          simpa using this
        rw [this];rfl
theorem zT {N:Nat} {s:Str} (hN:13≤N):vP N s=some (lm s):=YX hN
end Go.KB
namespace Go.KB
set_option linter.unusedVariables false
theorem KY {O:Type} {n N:Nat} {f:Int→Option (Int ⊕ O)} (R:Nat→O) (hf:∀ i:Nat,i<n→(f (i:Int)=some (.inl ((i+1:Nat):Int))∧R i=R (i+1))∨f (i:Int)=some (.inr (R i))) (he:f (n:Int)=some (.inr (R n))) (hN:n<N):dU f N 0=some (R 0):=by
 have key:∀ k i,i+k=n→∀ M,k<M→dU f M (i:Int)=some (R i):=by
  intro k
  induction k with
  | zero =>
   intro i hi M hM
   obtain ⟨M,rfl⟩:∃ m,M=m+1:=⟨M - 1,by omega⟩
   have:i=n:=by omega
   subst this
   simp only [dU,he]
  | succ k ih =>
   intro i hi M hM
   obtain ⟨M,rfl⟩:∃ m,M=m+1:=⟨M - 1,by omega⟩
   rcases hf i (by omega) with ⟨h1,h2⟩ | h1
   ·simp only [dU,h1];rw [h2];exact ih (i+1) (by omega) M (by omega)
   ·simp only [dU,h1]
 exact key n 0 (by omega) N (by omega)
theorem drop_at {α:Type} {l:List α} {i:Nat} (h:i<l.length):l.drop i=l[i] :: l.drop (i+1):=List.drop_eq_getElem_cons h
theorem SX {α:Type} {l:List α} {N:Nat} {f:Int→Option (Int ⊕ (Unit ⊕ Bool))} {g:α→Bool} (hf:∀ (i:Nat) (h:i<l.length),f (i:Int)=bif g l[i] then some (.inl ((i+1:Nat):Int)) else some (.inr (.inr false))) (he:f (l.length:Int)=some (.inr (.inl ()))) (hN:l.length<N) :
  ((dU f N 0).bind fun o=>Sum.elim (fun _=>some true) (fun r=>some r) o)=some (l.all g):=by
 rw [KY (fun i=>bif (l.drop i).all g then .inl () else .inr false) (fun i hi=>?_) (by simp [he]) hN]
 ·simp only [List.drop_zero,bS];cases l.all g <;> rfl
 ·rw [hf i hi]
  simp only [drop_at hi,List.all_cons]
  cases g l[i]
  ·exact .inr rfl
  ·exact .inl ⟨rfl,by simp⟩
theorem Ol {α:Type} {l:List α} {N:Nat} {f:Int→Option (Int ⊕ (Unit ⊕ Bool))} {g:α→Bool} (hf:∀ (i:Nat) (h:i<l.length),f (i:Int)=bif g l[i] then some (.inr (.inr true)) else some (.inl ((i+1:Nat):Int))) (he:f (l.length:Int)=some (.inr (.inl ()))) (hN:l.length<N) :
  ((dU f N 0).bind fun o=>Sum.elim (fun _=>some false) (fun r=>some r) o)=some (l.any g):=by
 rw [KY (fun i=>bif (l.drop i).any g then .inr true else .inl ()) (fun i hi=>?_) (by simp [he]) hN]
 ·simp only [List.drop_zero,bS];cases l.any g <;> rfl
 ·rw [hf i hi]
  simp only [drop_at hi,List.any_cons]
  cases g l[i]
  ·exact .inl ⟨rfl,by simp⟩
  ·exact .inr rfl
def Gg {α:Type} (g:α→Bool) (l:List α):Int:=if l.findIdx g<l.length then (l.findIdx g:Int) else -1
theorem yA {α:Type} {l:List α} {N:Nat} {f:Int→Option (Int ⊕ (Unit ⊕ Int))} {g:α→Bool} (hf:∀ (i:Nat) (h:i<l.length),f (i:Int)=bif g l[i] then some (.inr (.inr (i:Int))) else some (.inl ((i+1:Nat):Int))) (he:f (l.length:Int)=some (.inr (.inl ()))) (hN:l.length<N) :
  ((dU f N 0).bind fun o=>Sum.elim (fun _=>some (-1:Int)) (fun r=>some r) o)=some (Gg g l):=by
 rw [KY (fun i=>if (l.drop i).findIdx g<(l.drop i).length then .inr (((i+(l.drop i).findIdx g:Nat)):Int) else .inl ()) (fun i hi=>?_) (by simp [he]) hN]
 ·simp only [List.drop_zero,Nat.zero_add,bS,Gg];split <;> rfl
 ·rw [hf i hi]
  simp only [drop_at hi,List.findIdx_cons]
  cases g l[i]
  ·refine .inl ⟨rfl,?_⟩
   simp only [cond_false,List.length_cons,Nat.add_lt_add_iff_right]
   split
   ·congr 2;omega
   ·rfl
  ·refine .inr ?_
   simp only [cond_true,List.length_cons,Nat.zero_lt_succ,if_true,Nat.add_zero]
theorem Bh {α:Type} {g:α→Bool} {l:List α} (h:l.findIdx g<l.length):Gg g l=(l.findIdx g:Int):=if_pos h
theorem FW {α:Type} {g:α→Bool} {l:List α} (h:¬ l.findIdx g<l.length):Gg g l = -1:=if_neg h
theorem Eu {α:Type} {g:α→Bool} {l:List α}:decide (Gg g l<0) = !l.any g:=by
 have:l.any g=true↔l.findIdx g<l.length:=by
  rw [List.any_eq_true]
  exact List.findIdx_lt_length.symm
 by_cases h:l.findIdx g<l.length
 ·rw [Bh h,this.2 h];simp
 ·rw [FW h,Bool.eq_false_iff.2 (fun x=>h (this.1 x))];rfl
theorem DL {N:Nat} {s:Str} (hN:13≤N):qh N s=some (lm s):=by
  unfold qh
  by_cases hlen:s.length<1∨12<s.length
  · have hc : (aF .lss (s.length : Int) 1 || aF .gtr (s.length : Int) 12) = true := by simp; omega
    rw [hc]
    simp only [Bool.not_true,cond_false,bS,Bool.true_or,cond_true]
    congr 1
    unfold lm
    rcases hlen with h | h
    · have : s = [] := List.eq_nil_of_length_eq_zero (by omega)
      subst this;rfl
    · cases s with
      | nil=>rfl
      | cons c r=>simp at h;simp;intro h';omega
  · have hc : (aF .lss (s.length : Int) 1 || aF .gtr (s.length : Int) 12) = false := by rw [Bool.or_eq_false_iff]; simp; omega
    rw [hc]
    cases s with
    | nil=>simp at hlen
    | cons c r =>
      have hr:r.length<12:=by simp at hlen;omega
      have hl:∀ x:UInt8,xY N ((UInt8.toNat x:Nat):Int)=some (zD x):=fun x=>rfl
      have h0:idx (c :: r) 0=some c:=by have:=ji (xs:=c :: r) (i:=0) (by simp);simpa using this
      simp only [Bool.not_false,cond_true,h0,bS,hl,Bool.false_or]
      cases hc:zD c with
      | false=>simp [lm,hc]
      | true =>
        simp only [Bool.not_true,cond_false]
        have h1:∀ (i:Nat) (hi:i<(c :: r).length),su N (c :: r) (i:Int)=bif vY (c :: r)[i] then some (.inl ((i+1:Nat):Int)) else some (.inr (.inr false)):=by
          intro i hi
          unfold su
          rw [bQ,dT (by omega),cond_true,ji hi,bS,hl,bS,qw (show i<9223372036854775807 by simp at hi;omega)]
          have:((!zD (c :: r)[i]&&aF .neq ((UInt8.toNat (c :: r)[i]:Nat):Int) 45)&&(aF .lss ((UInt8.toNat (c :: r)[i]:Nat):Int) 48||aF .gtr ((UInt8.toNat (c :: r)[i]:Nat):Int) 57)) = !vY (c :: r)[i]:=by
            unfold vY chr
            cases zD (c :: r)[i]
            · simp only [Bool.not_false,Bool.true_and,Bool.false_or,uK,bQ,sG]
              generalize ((UInt8.toNat (c :: r)[i]:Nat):Int)=x
              rw [Bool.eq_iff_iff]
              simp only [Bool.and_eq_true,Bool.or_eq_true,Bool.not_eq_true',Bool.or_eq_false_iff,Bool.and_eq_false_iff,decide_eq_true_eq,decide_eq_false_iff_not]
              omega
            · simp
          rw [this]
          cases vY (c :: r)[i] <;> rfl
        have h2:su N (c :: r) ((c :: r).length:Int)=some (.inr (.inl ())):=by
          unfold su
          rw [bQ,dF (by omega),cond_false]
        rw [SX h1 h2 (by simp;omega)]
        simp [lm,hc,vY,hr]
instance:Inhabited dn:=⟨⟨[],false,[]⟩⟩
instance:Inhabited aG:=⟨⟨[],0,[],0,0,[]⟩⟩
instance:Inhabited bT:=⟨⟨0,0,0⟩⟩
def isS (s:Str) (y:dn):Bool:=decide (y.Name=s)
def OI (s:Str) (y:aG):Bool:=decide (y.Name=s)
theorem WQ {N:Nat} {l:List dn} {f:dn→Option Bool} {g:dn→Bool} (hf:∀ y,f y=some (g y)) (hl:l.length<1000000) (hN:1000000≤N):ku N l f=some (Gg g l):=by
 unfold ku
 refine yA (fun i hi=>?_) ?_ (by omega)
 ·unfold jG
  rw [bQ,dT (by omega),cond_true,ji hi,bS,hf,bS,qw (by omega)]
 ·unfold jG
  rw [bQ,dF (by omega),cond_false]
theorem WR {N:Nat} {l:List aG} {f:aG→Option Bool} {g:aG→Bool} (hf:∀ y,f y=some (g y)) (hl:l.length<1000000) (hN:1000000≤N):jI N l f=some (Gg g l):=by
 unfold jI
 refine yA (fun i hi=>?_) ?_ (by omega)
 ·unfold jh
  rw [bQ,dT (by omega),cond_true,ji hi,bS,hf,bS,qw (by omega)]
 ·unfold jh
  rw [bQ,dF (by omega),cond_false]
theorem yB {N:Nat} {p:GPermitPlan} {s:Str} (hl:p.bG.length<1000000) (hN:1000000≤N):lG N p s=some (Gg (isS s) p.bG):=by
 unfold lG
 refine yA (fun i hi=>?_) ?_ (by omega)
 ·unfold wO
  rw [bQ,dT (by omega),cond_true,ji hi,bS,qM,qw (by omega)];rfl
 ·unfold wO
  rw [bQ,dF (by omega),cond_false]
theorem FV {N:Nat} {p:GPermitPlan} {s:Str} (hl:p.aj.length<1000000) (hN:1000000≤N):qf N p s=some (Gg (OI s) p.aj):=by
 unfold qf
 refine yA (fun i hi=>?_) ?_ (by omega)
 ·unfold vg
  rw [bQ,dT (by omega),cond_true,ji hi,bS,qM,qw (by omega)];rfl
 ·unfold vg
  rw [bQ,dF (by omega),cond_false]
def zU {α:Type} (z:α) (g:α→Bool) (l:List α):α×Bool:=match l.find? g with | some y=>(y,true) | none=>(z,false)
theorem MR {α:Type} {g:α→Bool}:∀ {l:List α},(l.findIdx g<l.length∧∃ h:l.findIdx g<l.length,l.find? g=some l[l.findIdx g])∨(¬ l.findIdx g<l.length∧l.find? g=none):=by
 intro l
 by_cases h:l.findIdx g<l.length
 ·refine .inl ⟨h,h,?_⟩
  exact (List.find?_eq_getElem?_findIdx ..).trans (List.getElem?_eq_getElem h)
 ·refine .inr ⟨h,?_⟩
  rw [List.find?_eq_getElem?_findIdx,List.getElem?_eq_none (by omega)]
theorem zK {N:Nat} {p:GPermitPlan} {s:Str} (hl:p.bG.length<1000000) (hN:1000000≤N):jg N p s=some (zU ⟨[],false,[]⟩ (isS s) p.bG):=by
 unfold jg
 rw [WQ (g:=isS s) (fun y=>by unfold uI;rw [qM];rfl) hl hN,bS,bQ]
 unfold zU
 rcases MR (g:=isS s) (l:=p.bG) with ⟨_,h,h2⟩ | ⟨h,h2⟩
 ·rw [h2,Bh h,dF (by omega),cond_false,ji h];rfl
 ·rw [h2,FW h];rfl
theorem Ef {N:Nat} {p:GPermitPlan} {s:Str} (hl:p.aj.length<1000000) (hN:1000000≤N):ou N p s=some (zU ⟨[],0,[],0,0,[]⟩ (OI s) p.aj):=by
 unfold ou
 rw [WR (g:=OI s) (fun y=>by unfold uf;rw [qM];rfl) hl hN,bS,bQ]
 unfold zU
 rcases MR (g:=OI s) (l:=p.aj) with ⟨_,h,h2⟩ | ⟨h,h2⟩
 ·rw [h2,Bh h,dF (by omega),cond_false,ji h];rfl
 ·rw [h2,FW h];rfl
theorem Il {α:Type} {z:α} {g:α→Bool} {l:List α}:(zU z g l).2=l.any g:=by
 unfold zU
 cases h:l.find? g with
 | none=>simp only [];rw [eq_comm,Bool.eq_false_iff];intro hx;rw [List.any_eq_true] at hx;obtain ⟨x,hx,hg⟩:=hx;exact absurd hg (by simpa using List.find?_eq_none.1 h x hx)
 | some y=>simp only [];rw [eq_comm,List.any_eq_true];exact ⟨y,List.mem_of_find?_eq_some h,List.find?_some h⟩
end Go.KB
namespace Go.KB
set_option linter.unusedVariables false
def Ho (a b:Int):Int:=if a=0 then b else a
def Bf (k:Int):Bool:=decide (0≤k)&&decide (k≤5)
def JU (p:GPermitPlan) (i:Nat):Str:=p.bG[i]!.Name
def MQ (p:GPermitPlan) (i:Nat):Str:=p.aj[i]!.Name
def vW (p:GPermitPlan) (s:Str):Bool:=p.bG.any (isS s)
def lY (p:GPermitPlan) (s:Str):Bool:=p.aj.any (OI s)
def rF (p:GPermitPlan) (s:Str):aG:=(zU ⟨[],0,[],0,0,[]⟩ (OI s) p.aj).1
def yx (p:GPermitPlan) (s:Str):dn:=(zU ⟨[],false,[]⟩ (isS s) p.bG).1
def YT (p:GPermitPlan) (i:Nat):Int:=if lm (JU p i)=false then 4 else if dup (JU p) i (JU p i)=true then 5 else if 30<p.bG[i]!.Next.length then 8 else 0
def eNx (p:GPermitPlan) (y:dn) (j:Nat):Int:=if vW p y.Next[j]! = false then 6 else if y.Next[j]! = y.Name then 3 else 0
def OB (p:GPermitPlan) (i:Nat):Int:=iJ (eNx p p.bG[i]!) p.bG[i]!.Next.length 0
def eEx (p:GPermitPlan) (i:Nat):Int:=if Bf p.dR[i]!.A=false∨Bf p.dR[i]!.B=false∨p.dR[i]!.Reach<0∨2<p.dR[i]!.Reach then 2 else 0
def ePm (p:GPermitPlan) (i:Nat):Int:=if lm (MQ p i)=false then 4 else if dup (MQ p) i (MQ p i)=true then 5 else
 if Bf p.aj[i]!.Kind=false∨p.aj[i]!.From<0∨p.aj[i]!.To≤p.aj[i]!.From∨1000000<p.aj[i]!.To then 2 else if vW p p.aj[i]!.Space=false then 6 else if 10<p.aj[i]!.Locks.length then 8 else 0
def eLk (p:GPermitPlan) (y:aG) (j:Nat):Int:=if lY p y.Locks[j]! = false then 6 else if (rF p y.Locks[j]!).Kind≠5∨y.Kind=5 then 3 else 0
def Tj (p:GPermitPlan) (i:Nat):Int:=iJ (eLk p p.aj[i]!) p.aj[i]!.Locks.length 0
def wW (p:GPermitPlan):Int:=if 30<p.bG.length∨30<p.dR.length∨20<p.aj.length then 8 else if p.fC<1∨10000<p.fC then 2 else
 Ho (Ho (iJ (YT p) p.bG.length 0) (iJ (OB p) p.bG.length 0)) (Ho (iJ (eEx p) p.dR.length 0) (Ho (iJ (ePm p) p.aj.length 0) (iJ (Tj p) p.aj.length 0)))
structure EZ (p:GPermitPlan):Prop where
 s:p.bG.length<1000
 x:p.dR.length<1000
 m:p.aj.length<1000
 n:∀ y ∈ p.bG,y.Next.length<1000
 l:∀ y ∈ p.aj,y.Locks.length<1000
theorem qL {α:Type} [Inhabited α] {l:List α} {i:Nat} (h:i<l.length):l[i]! ∈ l:=by rw [BH h];exact List.getElem_mem h
theorem vZ {A:Type} {fin:A} {E:Int} {K:A→Option Int}:((some (vJ (Sum.inl fin) (fun e=>Sum.inr e) E):Option (A ⊕ Int)).bind fun o=>Sum.elim (fun l=>K l) (fun r=>some r) o)=if E=0 then K fin else some E:=by
 unfold vJ
 by_cases h:E=0
 ·rw [if_pos h,if_pos h];rfl
 ·rw [if_neg h,if_neg h];rfl
theorem UX {α:Type} [Inhabited α] {nm:α→Str} {x:Str} {l:List α} {i:Nat} (hi:i≤l.length):dup (fun j=>nm l[j]!) i x=(decide (0≤Gg (fun y=>decide (nm y=x)) l)&&decide (Gg (fun y=>decide (nm y=x)) l<(i:Int))):=by
 rw [Bool.eq_iff_iff,QM,Bool.and_eq_true,decide_eq_true_eq,decide_eq_true_eq]
 constructor
 ·rintro ⟨j,hj,hx⟩
  have hjl:j<l.length:=by omega
  rw [BH hjl] at hx
  have hle:l.findIdx (fun y=>decide (nm y=x))≤j:=by
   rcases Nat.lt_or_ge j (l.findIdx (fun y=>decide (nm y=x))) with h | h
   ·exact absurd (List.not_of_lt_findIdx h) (by simp [hx])
   ·exact h
  rw [Bh (by omega)]
  omega
 ·rintro ⟨h1,h2⟩
  by_cases h:l.findIdx (fun y=>decide (nm y=x))<l.length
  ·rw [Bh h] at h2
   refine ⟨l.findIdx (fun y=>decide (nm y=x)),by omega,?_⟩
   show nm l[l.findIdx (fun y=>decide (nm y=x))]! = x
   rw [BH h]
   have:=List.findIdx_getElem (xs:=l) (p:=fun y=>decide (nm y=x)) (w:=h)
   simpa using this
  ·rw [FW h] at h1;omega
theorem jJw {α:Type} [Inhabited α] {nm:α→Str} {x:Str} {l:List α}:dup (fun j=>nm l[j]!) l.length x=l.any (fun y=>decide (nm y=x)):=by
 rw [UX (Nat.le_refl _)]
 have:=Eu (g:=fun y=>decide (nm y=x)) (l:=l)
 by_cases h:l.findIdx (fun y=>decide (nm y=x))<l.length
 ·rw [Bh h] at this ⊢
  rw [dF (by omega)] at this
  rw [dT (by omega),dT (by omega)]
  cases hx:l.any (fun y=>decide (nm y=x)) with
  | true=>rfl
  | false=>rw [hx] at this;cases this
 ·rw [FW h] at this ⊢
  cases hx:l.any (fun y=>decide (nm y=x)) with
  | false=>rfl
  | true=>rw [hx] at this;cases this
theorem VO {N:Nat} {k:Int}:yw N k=some (Bf k):=rfl
theorem YZ {N:Nat} {k:Int}:y9 N k=some (Bf k):=rfl
section
variable {N:Nat} {p:GPermitPlan} (hp:EZ p) (hN:1000000≤N)
include hp hN
theorem cs3:dU (oH N p) N (([]:List (Str×Bool)),0)=some (vJ (.inl (seen (JU p) p.bG.length)) (fun e=>.inr e) (iJ (YT p) p.bG.length 0)):=by
 have hs:=hp.s
 refine PS (fun i=>(seen (JU p) i,(i:Int))) (fun i hi _=>?_) (fun _=>?_) (by omega)
 ·unfold oH YT
  simp only []
  rw [bQ,dT (by omega),cond_true,zk hi,bS,DL (by omega),bS,JS,qw (by omega),sG]
  show (bif !lm (JU p i) then _ else bif dup (JU p) i (JU p i) then _ else _)=_
  cases lm (JU p i) with
  | false=>rfl
  | true =>
   cases dup (JU p) i (JU p i) with
   | true=>rfl
   | false =>
    by_cases h:30<p.bG[i]!.Next.length
    ·rw [dT (show (30:Int)<(p.bG[i]!.Next.length:Int) by omega),if_pos h];rfl
    ·rw [dF (show ¬ (30:Int)<(p.bG[i]!.Next.length:Int) by omega),if_neg h];rfl
 ·unfold oH
  simp only []
  rw [bQ,dF (by omega),cond_false]
theorem cs1 {y:dn} (hy:y ∈ p.bG):dU (oJ N (seen (JU p) p.bG.length) y) N 0=some (vJ (.inl ()) (fun e=>.inr e) (iJ (eNx p y) y.Next.length 0)):=by
 have hl:=hp.n y hy
 refine yV (fun i hi _=>?_) (fun _=>?_) (by omega)
 ·unfold oJ eNx
  rw [bQ,dT (by omega),cond_true,zk hi,bS,JS,show dup (JU p) p.bG.length y.Next[i]! = vW p y.Next[i]! from jJw,qw (by omega),qM]
  cases vW p y.Next[i]! with
  | false=>rfl
  | true =>
   by_cases h:y.Next[i]! = y.Name
   ·rw [dT h,if_pos h];rfl
   ·rw [dF h,if_neg h];rfl
 ·unfold oJ
  rw [bQ,dF (by omega),cond_false]
theorem cs2:dU (oI N p (seen (JU p) p.bG.length)) N 0=some (vJ (.inl ()) (fun e=>.inr e) (iJ (OB p) p.bG.length 0)):=by
 have hs:=hp.s
 refine yV (fun i hi _=>?_) (fun _=>?_) (by omega)
 ·unfold oI
  rw [bQ,dT (by omega),cond_true,zk hi,bS,cs1 hp hN (qL hi),qw (by omega),bS]
  show Sum.elim _ _ (vJ _ _ (OB p i))=_
  unfold vJ
  by_cases h:OB p i=0
  ·rw [if_pos h,if_pos h];rfl
  ·rw [if_neg h,if_neg h];rfl
 ·unfold oI
  rw [bQ,dF (by omega),cond_false]
theorem OC:sK N p=some (Ho (iJ (YT p) p.bG.length 0) (iJ (OB p) p.bG.length 0)):=by
 unfold sK
 rw [cs3 hp hN,vZ,cs2 hp hN,vZ]
 unfold Ho
 split
 ·split
  ·rename_i h;rw [h]
  ·rfl
 ·rfl
theorem rcs3:dU (pz N p) N 0=some (vJ (.inl ()) (fun e=>.inr e) (iJ (YT p) p.bG.length 0)):=by
 have hs:=hp.s
 refine yV (fun i hi _=>?_) (fun _=>?_) (by omega)
 ·unfold pz YT
  rw [bQ,dT (by omega),cond_true,zk hi,bS,zT (by omega),bS]
  have hd:wP N p (i:Int) (JU p i)=some (dup (JU p) i (JU p i)):=by
   unfold wP
   rw [yB (by omega) hN,bS,Am,bQ]
   exact congrArg some (UX (nm:=dn.Name) (x:=JU p i) (l:=p.bG) (Nat.le_of_lt hi)).symm
  rw [bS,show wP N p (i:Int) p.bG[i]!.Name=_ from hd,bS,bS,qw (by omega),sG]
  show (bif !lm (JU p i) then _ else bif dup (JU p) i (JU p i) then _ else _)=_
  cases lm (JU p i) with
  | false=>rfl
  | true =>
   cases dup (JU p) i (JU p i) with
   | true=>rfl
   | false =>
    by_cases h:30<p.bG[i]!.Next.length
    ·rw [dT (show (30:Int)<(p.bG[i]!.Next.length:Int) by omega),if_pos h];rfl
    ·rw [dF (show ¬ (30:Int)<(p.bG[i]!.Next.length:Int) by omega),if_neg h];rfl
 ·unfold pz
  rw [bQ,dF (by omega),cond_false]
theorem rcs1 {i:Nat} (hi:i<p.bG.length):dU (pG N p (i:Int)) N 0=some (vJ (.inl ()) (fun e=>.inr e) (OB p i)):=by
 have hl:=hp.n _ (qL hi)
 have hs:=hp.s
 refine yV (fun j hj _=>?_) (fun _=>?_) (by omega)
 ·unfold pG eNx
  rw [zk hi,bS,bQ,dT (by omega),cond_true,bS,zk hj,bS,yB (by omega) hN,bS,bQ,Eu,bS,zk hj,bS,bS,qw (by omega),qM]
  show (bif !vW p _ then _ else _)=_
  cases vW p p.bG[i]!.Next[j]! with
  | false=>rfl
  | true =>
   by_cases h:p.bG[i]!.Next[j]! = p.bG[i]!.Name
   ·rw [dT h,if_pos h];rfl
   ·rw [dF h,if_neg h];rfl
 ·unfold pG
  rw [zk hi,bS,bQ,dF (by omega),cond_false]
theorem rcs2:dU (pF N p) N 0=some (vJ (.inl ()) (fun e=>.inr e) (iJ (OB p) p.bG.length 0)):=by
 have hs:=hp.s
 refine yV (fun i hi _=>?_) (fun _=>?_) (by omega)
 ·unfold pF
  rw [bQ,dT (by omega),cond_true,rcs1 hp hN hi,qw (by omega),bS]
  unfold vJ
  by_cases h:OB p i=0
  ·rw [if_pos h,if_pos h];rfl
  ·rw [if_neg h,if_neg h];rfl
 ·unfold pF
  rw [bQ,dF (by omega),cond_false]
theorem Md:tY N p=some (Ho (iJ (YT p) p.bG.length 0) (iJ (OB p) p.bG.length 0)):=by
 unfold tY
 rw [rcs3 hp hN,vZ,rcs2 hp hN,vZ]
 unfold Ho
 split
 ·split
  ·rename_i h;rw [h]
  ·rfl
 ·rfl
omit hp hN in
theorem ex_eq {a b:Bool} {r:Int}:((((!a)||(!(bif !(!a) then b else false)))||(aF .lss r 0))||(aF .gtr r 2))=decide (a=false∨b=false∨r<0∨2<r):=by
 rw [Bool.eq_iff_iff,bQ,sG]
 cases a <;> cases b <;> simp
omit hN in
theorem exL (hN2:p.dR.length<N):dU (pX N p) N 0=some (vJ (.inl ()) (fun e=>.inr e) (iJ (eEx p) p.dR.length 0)):=by
 have hs:=hp.x
 refine yV (fun i hi _=>?_) (fun _=>?_) hN2
 ·unfold pX eEx
  simp only [VO]
  rw [bQ,dT (by omega),cond_true,zk hi,bS,bS,OU,bS,qw (by omega),ex_eq]
  by_cases h:Bf p.dR[i]!.A=false∨Bf p.dR[i]!.B=false∨p.dR[i]!.Reach<0∨2<p.dR[i]!.Reach
  ·rw [dT h,if_pos h];rfl
  ·rw [dF h,if_neg h];rfl
 ·unfold pX
  rw [bQ,dF (by omega),cond_false]
omit hN in
theorem rexL (hN2:p.dR.length<N):dU (uZ N p) N 0=some (vJ (.inl ()) (fun e=>.inr e) (iJ (eEx p) p.dR.length 0)):=exL hp hN2
omit hp hN in
theorem rg_eq {a:Bool} {x y:Int}:((((!a)||(aF .lss x 0))||(aF .geq x y))||(aF .gtr y 1000000))=decide (a=false∨x<0∨y≤x∨1000000<y):=by
 rw [Bool.eq_iff_iff,bQ,sG,Am]
 cases a <;> simp [or_assoc]
theorem pm3:dU (nX N p) N (([]:List (Str×Bool)),0)=some (vJ (.inl ()) (fun e=>.inr e) (iJ (ePm p) p.aj.length 0)):=by
 have hs:=hp.s
 have hm:=hp.m
 refine PS (fun i=>(seen (MQ p) i,(i:Int))) (fun i hi _=>?_) (fun _=>?_) (by omega)
 ·unfold nX ePm
  simp only []
  rw [bQ,dT (by omega),cond_true,zk hi,bS,zK (by omega) hN,bS,DL (by omega),bS,JS,qw (by omega),VO,bS,rg_eq,Il,sG]
  show (bif !lm (MQ p i) then _ else bif dup (MQ p) i (MQ p i) then _ else bif _ then _ else bif !vW p p.aj[i]!.Space then _ else _)=_
  cases lm (MQ p i) with
  | false=>rfl
  | true =>
   cases dup (MQ p) i (MQ p i) with
   | true=>rfl
   | false =>
    by_cases h:Bf p.aj[i]!.Kind=false∨p.aj[i]!.From<0∨p.aj[i]!.To≤p.aj[i]!.From∨1000000<p.aj[i]!.To
    ·rw [dT h,if_pos h];rfl
    ·rw [dF h,if_neg h]
     cases vW p p.aj[i]!.Space with
     | false=>rfl
     | true =>
      by_cases h:10<p.aj[i]!.Locks.length
      ·rw [dT (show (10:Int)<(p.aj[i]!.Locks.length:Int) by omega),if_pos h];rfl
      ·rw [dF (show ¬ (10:Int)<(p.aj[i]!.Locks.length:Int) by omega),if_neg h];rfl
 ·unfold nX
  simp only []
  rw [bQ,dF (by omega),cond_false]
theorem rpm3:dU (qB N p) N 0=some (vJ (.inl ()) (fun e=>.inr e) (iJ (ePm p) p.aj.length 0)):=by
 have hs:=hp.s
 have hm:=hp.m
 refine yV (fun i hi _=>?_) (fun _=>?_) (by omega)
 ·unfold qB ePm
  have hd:aF .lss (Gg (OI p.aj[i]!.Name) p.aj) (i:Int)=dup (MQ p) i (MQ p i):=by
   have h1:=UX (nm:=aG.Name) (x:=MQ p i) (l:=p.aj) (Nat.le_of_lt hi)
   have h2:(0:Int)≤Gg (OI p.aj[i]!.Name) p.aj:=by
    have:=Eu (g:=OI p.aj[i]!.Name) (l:=p.aj)
    have h3:p.aj.any (OI p.aj[i]!.Name)=true:=List.any_eq_true.2 ⟨_,qL hi,by simp [OI]⟩
    rw [h3] at this
    simpa using this
   rw [bQ]
   show _=dup (fun j=>p.aj[j]!.Name) i (MQ p i)
   rw [h1]
   show _=(decide ((0:Int)≤Gg (OI p.aj[i]!.Name) p.aj)&&decide (Gg (OI p.aj[i]!.Name) p.aj<(i:Int)))
   rw [dT h2,Bool.true_and]
  rw [bQ,dT (by omega),cond_true,zk hi,bS,zT (by omega),bS,FV (by omega) hN,bS,hd,YZ,bS,rg_eq,yB (by omega) hN,bS,bQ,Eu,sG,qw (by omega)]
  show (bif !lm (MQ p i) then _ else bif dup (MQ p) i (MQ p i) then _ else bif _ then _ else bif !vW p p.aj[i]!.Space then _ else _)=_
  cases lm (MQ p i) with
  | false=>rfl
  | true =>
   cases dup (MQ p) i (MQ p i) with
   | true=>rfl
   | false =>
    by_cases h:Bf p.aj[i]!.Kind=false∨p.aj[i]!.From<0∨p.aj[i]!.To≤p.aj[i]!.From∨1000000<p.aj[i]!.To
    ·rw [dT h,if_pos h];rfl
    ·rw [dF h,if_neg h]
     cases vW p p.aj[i]!.Space with
     | false=>rfl
     | true =>
      by_cases h:10<p.aj[i]!.Locks.length
      ·rw [dT (show (10:Int)<(p.aj[i]!.Locks.length:Int) by omega),if_pos h];rfl
      ·rw [dF (show ¬ (10:Int)<(p.aj[i]!.Locks.length:Int) by omega),if_neg h];rfl
 ·unfold qB
  rw [bQ,dF (by omega),cond_false]
omit hp hN in
theorem lk_eq {a b:Int}:((aF .neq a 5)||(aF .eql b 5))=decide (a≠5∨b=5):=by
 rw [Bool.eq_iff_iff,uK,jr];simp
theorem lk1 {y:aG} (hy:y ∈ p.aj):dU (nZ N p y) N 0=some (vJ (.inl ()) (fun e=>.inr e) (iJ (eLk p y) y.Locks.length 0)):=by
 have hm:=hp.m
 have hl:=hp.l y hy
 refine yV (fun i hi _=>?_) (fun _=>?_) (by omega)
 ·unfold nZ eLk
  rw [bQ,dT (by omega),cond_true,zk hi,bS,Ef (by omega) hN,bS,Il,lk_eq,qw (by omega)]
  show (bif !lY p y.Locks[i]! then _ else bif decide ((rF p y.Locks[i]!).Kind≠5∨y.Kind=5) then _ else _)=_
  cases lY p y.Locks[i]! with
  | false=>rfl
  | true =>
   by_cases h:(rF p y.Locks[i]!).Kind≠5∨y.Kind=5
   ·rw [dT h,if_pos h];rfl
   ·rw [dF h,if_neg h];rfl
 ·unfold nZ
  rw [bQ,dF (by omega),cond_false]
theorem lk2:dU (nY N p) N 0=some (vJ (.inl ()) (fun e=>.inr e) (iJ (Tj p) p.aj.length 0)):=by
 have hm:=hp.m
 refine yV (fun i hi _=>?_) (fun _=>?_) (by omega)
 ·unfold nY
  rw [bQ,dT (by omega),cond_true,zk hi,bS,lk1 hp hN (qL hi),qw (by omega),bS]
  show Sum.elim _ _ (vJ _ _ (Tj p i))=_
  unfold vJ
  by_cases h:Tj p i=0
  ·rw [if_pos h,if_pos h];rfl
  ·rw [if_neg h,if_neg h];rfl
 ·unfold nY
  rw [bQ,dF (by omega),cond_false]
theorem rlk1 {y:aG} (hy:y ∈ p.aj):dU (qE N p y) N 0=some (vJ (.inl ()) (fun e=>.inr e) (iJ (eLk p y) y.Locks.length 0)):=by
 have hm:=hp.m
 have hl:=hp.l y hy
 refine yV (fun i hi _=>?_) (fun _=>?_) (by omega)
 ·unfold qE eLk
  rw [bQ,dT (by omega),cond_true,zk hi,bS,FV (by omega) hN,bS,bQ,Eu,qw (by omega)]
  show (bif !lY p y.Locks[i]! then _ else _)=_
  cases hx:lY p y.Locks[i]! with
  | false=>rfl
  | true =>
   rw [Bool.not_true,cond_false]
   have hg:idx p.aj (Gg (OI y.Locks[i]!) p.aj)=some (rF p y.Locks[i]!):=by
    unfold rF zU
    rcases MR (g:=OI y.Locks[i]!) (l:=p.aj) with ⟨_,h,h2⟩ | ⟨h,h2⟩
    ·rw [h2,Bh h,ji h]
    ·have:=Eu (g:=OI y.Locks[i]!) (l:=p.aj)
     rw [show p.aj.any (OI y.Locks[i]!)=true from hx,FW h] at this
     cases this
   rw [hg,bS,lk_eq]
   by_cases h:(rF p y.Locks[i]!).Kind≠5∨y.Kind=5
   ·rw [dT h,if_pos h];rfl
   ·rw [dF h,if_neg h];rfl
 ·unfold qE
  rw [bQ,dF (by omega),cond_false]
theorem rlk2:dU (qC N p) N 0=some (vJ (.inl ()) (fun e=>.inr e) (iJ (Tj p) p.aj.length 0)):=by
 have hm:=hp.m
 refine yV (fun i hi _=>?_) (fun _=>?_) (by omega)
 ·unfold qC
  rw [bQ,dT (by omega),cond_true,zk hi,bS,rlk1 hp hN (qL hi),qw (by omega),bS]
  show Sum.elim _ _ (vJ _ _ (Tj p i))=_
  unfold vJ
  by_cases h:Tj p i=0
  ·rw [if_pos h,if_pos h];rfl
  ·rw [if_neg h,if_neg h];rfl
 ·unfold qC
  rw [bQ,dF (by omega),cond_false]
theorem Me:rV N p=some (Ho (iJ (ePm p) p.aj.length 0) (iJ (Tj p) p.aj.length 0)):=by
 unfold rV
 rw [pm3 hp hN,vZ,lk2 hp hN,vZ]
 unfold Ho
 split
 ·split
  ·rename_i h;rw [h]
  ·rfl
 ·rfl
omit hp hN in
theorem Y0:(((aF .gtr (List.length p.bG:Int) 30)||(aF .gtr (List.length p.dR:Int) 30))||(aF .gtr (List.length p.aj:Int) 20))=decide (30<p.bG.length∨30<p.dR.length∨20<p.aj.length):=by
 rw [Bool.eq_iff_iff];simp only [sG,Bool.or_eq_true,decide_eq_true_eq];omega
omit hp hN in
theorem Y1 {g:Int}:((aF .lss g 1)||(aF .gtr g 10000))=decide (g<1∨10000<g):=by
 rw [Bool.eq_iff_iff];simp
theorem JR:sD N p=some (wW p):=by
  have hx:=hp.x
  unfold sD wW
  rw [Y0,Y1]
  by_cases h:30<p.bG.length∨30<p.dR.length∨20<p.aj.length
  · rw [dT h,if_pos h];rfl
  · rw [dF h,if_neg h,cond_false]
    by_cases h:p.fC<1∨10000<p.fC
    · rw [dT h,if_pos h];rfl
    · rw [dF h,if_neg h,cond_false,OC hp hN,bS,uK]
      generalize Ho (iJ (YT p) p.bG.length 0) (iJ (OB p) p.bG.length 0)=E
      unfold Ho
      by_cases h:E=0
      · rw [dT h, if_pos h, Bool.not_true, cond_false, exL hp (by omega), vZ, Me hp hN]
        unfold Ho
        split
        · rfl
        · rfl
      · rw [dF h,if_neg h];rfl
theorem IU:sO N p=some (wW p):=by
  have hx:=hp.x
  unfold sO wW
  rw [Y0,Y1]
  by_cases h:30<p.bG.length∨30<p.dR.length∨20<p.aj.length
  · rw [dT h,if_pos h];rfl
  · rw [dF h,if_neg h,cond_false]
    by_cases h:p.fC<1∨10000<p.fC
    · rw [dT h,if_pos h];rfl
    · rw [dF h,if_neg h,cond_false,Md hp hN,bS,uK]
      generalize Ho (iJ (YT p) p.bG.length 0) (iJ (OB p) p.bG.length 0)=E
      unfold Ho
      by_cases h:E=0
      · rw [dT h, if_pos h, Bool.not_true, cond_false, rexL hp (by omega), vZ, rpm3 hp hN, vZ, rlk2 hp hN, vZ]
        split
        · split
          · split
            · rename_i h1 h2 h3;rw [h3]
            · rfl
          · rfl
        · rfl
      · rw [dF h,if_neg h];rfl
end
end Go.KB
namespace Go.KB
set_option linter.unusedVariables false
theorem Yw {N:Nat} (p:GPermitPlan) (hN:1000000≤N):yu N p=some true∨(yu N p=some false∧EZ p∧p.bG.length≤40∧p.dR.length≤40∧p.aj.length≤30∧(∀ y ∈ p.bG,y.Next.length≤40∧y.Name.length≤40)∧∀ y ∈ p.aj,y.Locks.length≤20∧y.Name.length≤40):=by
  unfold yu
  have hb:(((aF .gtr (List.length p.bG:Int) 40)||(aF .gtr (List.length p.dR:Int) 40))||(aF .gtr (List.length p.aj:Int) 30))=decide (40<p.bG.length∨40<p.dR.length∨30<p.aj.length):=by
    rw [Bool.eq_iff_iff];simp only [sG,Bool.or_eq_true,decide_eq_true_eq];omega
  rw [hb]
  by_cases h:40<p.bG.length∨40<p.dR.length∨30<p.aj.length
  · rw [dT h];exact .inl rfl
  rw [dF h,cond_false]
  have hs:∀ (i:Nat) (hi:i<p.bG.length),qJ N p (i:Int)=bif (decide (40<p.bG[i].Next.length)||decide (40<p.bG[i].Name.length)) then some (.inr (.inr true)) else some (.inl ((i+1:Nat):Int)):=by
    intro i hi
    unfold qJ
    rw [bQ,dT (by omega),cond_true,ji hi,bS,qw (by omega)]
    simp only [sG]
    by_cases h1:40<p.bG[i].Next.length
    · rw [dT h1,dT (show (40:Int)<(p.bG[i].Next.length:Int) by omega)];rfl
    · rw [dF h1, dF (show ¬ (40 : Int) < (p.bG[i].Next.length : Int) by omega), Bool.not_false, cond_true, bS, Bool.false_or, Bool.false_or]
      by_cases h2:40<p.bG[i].Name.length
      · rw [dT h2,dT (show (40:Int)<(p.bG[i].Name.length:Int) by omega)]
      · rw [dF h2,dF (show ¬ (40:Int)<(p.bG[i].Name.length:Int) by omega)]
  have hs2:qJ N p (p.bG.length:Int)=some (.inr (.inl ())):=by
    unfold qJ
    rw [bQ,dF (by omega),cond_false]
  have hm:∀ (i:Nat) (hi:i<p.aj.length),qK N p (i:Int)=bif (decide (20<p.aj[i].Locks.length)||decide (40<p.aj[i].Name.length)) then some (.inr (.inr true)) else some (.inl ((i+1:Nat):Int)):=by
    intro i hi
    unfold qK
    rw [bQ,dT (by omega),cond_true,ji hi,bS,qw (by omega)]
    simp only [sG]
    by_cases h1:20<p.aj[i].Locks.length
    · rw [dT h1,dT (show (20:Int)<(p.aj[i].Locks.length:Int) by omega)];rfl
    · rw [dF h1, dF (show ¬ (20 : Int) < (p.aj[i].Locks.length : Int) by omega), Bool.not_false, cond_true, bS, Bool.false_or, Bool.false_or]
      by_cases h2:40<p.aj[i].Name.length
      · rw [dT h2,dT (show (40:Int)<(p.aj[i].Name.length:Int) by omega)]
      · rw [dF h2,dF (show ¬ (40:Int)<(p.aj[i].Name.length:Int) by omega)]
  have hm2:qK N p (p.aj.length:Int)=some (.inr (.inl ())):=by
    unfold qK
    rw [bQ,dF (by omega),cond_false]
  have e1:=KY (N:=N) (fun i=>bif (p.bG.drop i).any (fun y=>decide (40<y.Next.length)||decide (40<y.Name.length)) then .inr true else .inl ()) (f:=qJ N p) (n:=p.bG.length) (fun i hi=>by
    rw [hs i hi]
    simp only [drop_at hi,List.any_cons]
    cases (decide (40<p.bG[i].Next.length)||decide (40<p.bG[i].Name.length))
    · exact .inl ⟨rfl,by simp⟩
    · exact .inr rfl) (by rw [hs2];simp) (by omega)
  have e2:=KY (N:=N) (fun i=>bif (p.aj.drop i).any (fun y=>decide (20<y.Locks.length)||decide (40<y.Name.length)) then .inr true else .inl ()) (f:=qK N p) (n:=p.aj.length) (fun i hi=>by
    rw [hm i hi]
    simp only [drop_at hi,List.any_cons]
    cases (decide (20<p.aj[i].Locks.length)||decide (40<p.aj[i].Name.length))
    · exact .inl ⟨rfl,by simp⟩
    · exact .inr rfl) (by rw [hm2];simp) (by omega)
  rw [e1,e2]
  simp only [List.drop_zero,bS]
  cases ha:p.bG.any (fun y=>decide (40<y.Next.length)||decide (40<y.Name.length)) with
  | true=>exact .inl rfl
  | false =>
    cases hc:p.aj.any (fun y=>decide (20<y.Locks.length)||decide (40<y.Name.length)) with
    | true=>exact .inl rfl
    | false =>
      have ha':∀ y ∈ p.bG,y.Next.length≤40∧y.Name.length≤40:=fun y hy=>by
        have:=List.any_eq_false.1 ha y hy
        simp only [Bool.or_eq_true,decide_eq_true_eq,not_or] at this
        omega
      have hc':∀ y ∈ p.aj,y.Locks.length≤20∧y.Name.length≤40:=fun y hy=>by
        have:=List.any_eq_false.1 hc y hy
        simp only [Bool.or_eq_true,decide_eq_true_eq,not_or] at this
        omega
      exact .inr ⟨rfl,⟨by omega,by omega,by omega,fun y hy=>by have:=(ha' y hy).1;omega,fun y hy=>by have:=(hc' y hy).1;omega⟩,by omega,by omega,by omega,ha',hc'⟩
end Go.KB
