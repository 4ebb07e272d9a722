/- Plain laws of chapter 7: loops, names, sets of names. Plain laws of chapter 7: searches, names, places of spaces and permits. Plain laws of chapter 7: CheckPlan. Plain laws of chapter 7: which plans are looked at. No condition. -/
import Derived.Test.YtalkbgomndhkmaaGreatPZa
import Derived.Test.YtalkbgomndhkmaaGreatGPure
namespace Go.KB
set_option linter.unusedVariables false
theorem XR {n:Int} (h0:-9223372036854775808≤n) (h1:n≤9223372036854775807):IntKind.i64.wrap n=n:=EH h0 h1
theorem dT {p:Prop} [Decidable p] (h:p):decide p=true:=decide_eq_true h
theorem dF {p:Prop} [Decidable p] (h:¬p):decide p=false:=decide_eq_false h
def fG (e:Nat→Int):Nat→Nat→Int
 | 0,_=>0
 | k+1,i=>if e i=0 then fG e k (i+1) else e i
theorem BN {e:Nat→Int}:∀ {k i:Nat},fG e k i=0→∀ j,i≤j→j<i+k→e j=0:=by
 intro k
 induction k with
 | zero=>intro i _ j h1 h2;omega
 | succ k ih =>
  intro i h j h1 h2
  simp only [fG] at h
  split at h
  ·rename_i h0
   rcases Nat.eq_or_lt_of_le h1 with rfl | h1
   ·exact h0
   ·exact ih h j h1 (by omega)
  ·rename_i h0;exact absurd h h0
def sN {O:Type} (fin:O) (err:Int→O) (z:Int):O:=if z=0 then fin else err z
theorem Il {e:Nat→Int} {k i:Nat} (h:e i=0):fG e (k+1) i=fG e k (i+1):=by simp [fG,h]
theorem Io {e:Nat→Int} {k i:Nat} (h:e i≠0):fG e (k+1) i=e i:=by simp [fG,h]
theorem wo {O:Type} {n N:Nat} {f:Int→Option (Int ⊕ O)} {e:Nat→Int} {fin:O} {err:Int→O} (hf:∀ i:Nat,i<n→(∀ j,j<i→e j=0)→f (i:Int)=if e i=0 then some (.inl ((i+1:Nat):Int)) else some (.inr (err (e i)))) (he:(∀ j,j<n→e j=0)→f (n:Int)=some (.inr fin)) (hN:n<N) :
  dh f N 0=some (sN fin err (fG e n 0)):=by
 have key:∀ k i,i+k=n→(∀ j,j<i→e j=0)→∀ M,k<M→dh f M (i:Int)=some (sN fin err (fG e k i)):=by
  intro k
  induction k with
  | zero =>
   intro i hi hz M hM
   obtain ⟨M,rfl⟩:∃ m,M=m+1:=⟨M - 1,by omega⟩
   have:i=n:=by omega
   subst this
   simp only [dh,he hz,fG];rfl
  | succ k ih =>
   intro i hi hz M hM
   obtain ⟨M,rfl⟩:∃ m,M=m+1:=⟨M - 1,by omega⟩
   simp only [dh,hf i (by omega) hz]
   by_cases h0:e i=0
   ·rw [if_pos h0,Il h0]
    exact ih (i+1) (by omega) (fun j hj=>by
     rcases Nat.lt_succ_iff_lt_or_eq.1 hj with h | rfl
     ·exact hz j h
     ·exact h0) M (by omega)
   ·rw [if_neg h0,Io h0]
    unfold sN
    rw [if_neg h0]
 exact key n 0 (by omega) (fun j hj=>absurd hj (Nat.not_lt_zero _)) N (by omega)
theorem KU {S O:Type} {n N:Nat} {f:S→Option (S ⊕ O)} {e:Nat→Int} {fin:O} {err:Int→O} (g:Nat→S) (hf:∀ i:Nat,i<n→(∀ j,j<i→e j=0)→f (g i)=if e i=0 then some (.inl (g (i+1))) else some (.inr (err (e i)))) (he:(∀ j,j<n→e j=0)→f (g n)=some (.inr fin)) (hN:n<N) :
  dh f N (g 0)=some (sN fin err (fG e n 0)):=by
 have key:∀ k i,i+k=n→(∀ j,j<i→e j=0)→∀ M,k<M→dh f M (g i)=some (sN fin err (fG e k i)):=by
  intro k
  induction k with
  | zero =>
   intro i hi hz M hM
   obtain ⟨M,rfl⟩:∃ m,M=m+1:=⟨M - 1,by omega⟩
   have:i=n:=by omega
   subst this
   simp only [dh,he hz,fG];rfl
  | succ k ih =>
   intro i hi hz M hM
   obtain ⟨M,rfl⟩:∃ m,M=m+1:=⟨M - 1,by omega⟩
   simp only [dh,hf i (by omega) hz]
   by_cases h0:e i=0
   ·rw [if_pos h0,Il h0]
    exact ih (i+1) (by omega) (fun j hj=>by
     rcases Nat.lt_succ_iff_lt_or_eq.1 hj with h | rfl
     ·exact hz j h
     ·exact h0) M (by omega)
   ·rw [if_neg h0,Io h0]
    unfold sN
    rw [if_neg h0]
 exact key n 0 (by omega) (fun j hj=>absurd hj (Nat.not_lt_zero _)) N (by omega)
theorem xR {α:Type} [Inhabited α] {l:List α} {i:Nat} (h:i<l.length):l[i]! = l[i]:=by simp [h]
theorem yK {α:Type} [Inhabited α] {l:List α} {i:Nat} (h:i<l.length):idx l (i:Int)=some l[i]!:=by rw [iZ h,xR h]
theorem J5 {α:Type} {b:Bool} {x y:α}:(bif b then some x else some y)=some (bif b then x else y):=by cases b <;> rfl
theorem H6 {α β:Type} [DecidableEq α] (z:β) (x k:α) (y:β):∀ m:List (α×β),gQ z (ql m x y) k=if k=x then y else gQ z m k
 | []=>by
  by_cases h:k=x
  ·subst h;simp [gQ,ql]
  ·simp [gQ,ql,h]
 | p :: r=>by
  by_cases hp:x=p.1
  ·subst hp
   by_cases h:k=p.1
   ·subst h;simp [gQ,ql]
   ·simp [gQ,ql,h]
  ·by_cases h : k = p.1
   ·subst h;simp [gQ,ql,hp,Ne.symm hp]
   ·simp [gQ,ql,hp,h,H6 z x k y r]
theorem uH (a b:Str):zY .eql a b=decide (a=b):=by
 unfold zY
 rw [Bool.eq_iff_iff]
 simp
theorem UJ (a b:Str):zY .neq a b = !decide (a=b):=by
 rw [← uH];rfl
def dup (nm:Nat→Str):Nat→Str→Bool
 | 0,_=>false
 | i+1,x=>decide (x=nm i)||dup nm i x
def seen (nm:Nat→Str):Nat→List (Str×Bool)
 | 0=>[]
 | i+1=>ql (seen nm i) (nm i) true
theorem GK (nm:Nat→Str) (x:Str):∀ i,gQ false (seen nm i) x=dup nm i x
 | 0=>rfl
 | i+1=>by
  simp only [seen,dup,H6,GK nm x i]
  by_cases h:x=nm i <;> simp [h]
theorem MP (nm:Nat→Str) (x:Str):∀ i,dup nm i x=true↔∃ j,j<i∧nm j=x
 | 0=>by simp [dup]
 | i+1=>by
  simp only [dup,Bool.or_eq_true,decide_eq_true_eq,MP nm x i]
  constructor
  ·rintro (h | ⟨j,h1,h2⟩)
   ·exact ⟨i,by omega,h.symm⟩
   ·exact ⟨j,by omega,h2⟩
  ·rintro ⟨j,h1,h2⟩
   by_cases hj:j=i
   ·subst hj;exact .inl h2.symm
   ·exact .inr ⟨j,by omega,h2⟩
def same (nm:Nat→Str) (x:Str) (j:Nat):Int:=if nm j=x then 5 else 0
def UR (x0:Str) (s1:Int):Option (Int ⊕ (Unit ⊕ Bool)) :=
 bif (aJ .lss s1 (List.length x0:Int)) then ((idx x0 s1).bind fun v2=>bif ((!(((aJ .geq ((UInt8.toNat v2:Nat):Int) 97)&&(aJ .leq ((UInt8.toNat v2:Nat):Int) 122))||((aJ .geq ((UInt8.toNat v2:Nat):Int) 65)&&(aJ .leq ((UInt8.toNat v2:Nat):Int) 90))))&&((aJ .eql s1 0)||((aJ .neq ((UInt8.toNat v2:Nat):Int) 45)&&((aJ .lss ((UInt8.toNat v2:Nat):Int) 48)||(aJ .gtr ((UInt8.toNat v2:Nat):Int) 57))))) then (some (.inr (Sum.inr false))) else (some (.inl (IntKind.i64.wrap (s1+1))))) else (some (.inr (Sum.inl ())))
def V9 (N:Nat) (x0:Str):Option (Bool) :=
 bif ((aJ .lss (List.length x0:Int) 1)||(aJ .gtr (List.length x0:Int) 12)) then (some false) else ((dh (UR x0) N 0).bind fun o5=>Sum.elim (fun l7=>some true) (fun r8=>some r8) o5)
theorem UU {N:Nat} {s:Str} (hN:13≤N):V9 N s=some (oW s):=by
  unfold V9
  by_cases hlen:s.length<1∨12<s.length
  · have hc:(aJ .lss (s.length:Int) 1||aJ .gtr (s.length:Int) 12)=true:=by
      simp;omega
    rw [hc,qZ]
    congr 1
    unfold oW
    rcases hlen with h | h
    · have : s = [] := List.eq_nil_of_length_eq_zero (by omega)
      subst this;rfl
    · cases s with
      | nil=>rfl
      | cons c r=>simp at h;simp;intro h';omega
  · have hc:(aJ .lss (s.length:Int) 1||aJ .gtr (s.length:Int) 12)=false:=by
      rw [Bool.or_eq_false_iff];simp;omega
    rw [hc,qg]
    cases s with
    | nil=>simp at hlen
    | cons c r =>
      have hr:r.length<12:=by simp at hlen;omega
      have hbad:∀ i (hi:i<(c :: r).length),((!(((aJ .geq ((UInt8.toNat (c :: r)[i]:Nat):Int) 97)&&(aJ .leq ((UInt8.toNat (c :: r)[i]:Nat):Int) 122))||((aJ .geq ((UInt8.toNat (c :: r)[i]:Nat):Int) 65)&&(aJ .leq ((UInt8.toNat (c :: r)[i]:Nat):Int) 90))))&&((aJ .eql (i:Int) 0)||((aJ .neq ((UInt8.toNat (c :: r)[i]:Nat):Int) 45)&&((aJ .lss ((UInt8.toNat (c :: r)[i]:Nat):Int) 48)||(aJ .gtr ((UInt8.toNat (c :: r)[i]:Nat):Int) 57))))) =
          !(if i=0 then wP (c :: r)[i] else sZ (c :: r)[i]):=by
        intro i hi
        split
        · rename_i h0;subst h0
          simp only [uU,Int.natCast_zero,decide_true,Bool.true_or,Bool.and_true]
          rfl
        · rename_i h0
          rw [uU,show decide ((i:Int)=0)=false by rw [decide_eq_false_iff_not];omega,Bool.false_or]
          unfold sZ wP VN
          simp only [pV,bP,rf,Bz,DJ]
          generalize ((UInt8.toNat (c :: r)[i]:Nat):Int)=x
          rw [Bool.eq_iff_iff]
          simp only [Bool.and_eq_true,Bool.or_eq_true,Bool.not_eq_true',Bool.or_eq_false_iff,Bool.and_eq_false_iff,decide_eq_true_eq,decide_eq_false_iff_not]
          omega
      rw [OC (c :: r).length (if oW (c :: r) then .inl () else .inr false) (fun i=>∀ j (h:j<(c :: r).length),j<i→(if j=0 then wP (c :: r)[j] else sZ (c :: r)[j])=true) ?_ ?_ (fun j _ h=>absurd h (Nat.not_lt_zero _)) N (by simp;omega)]
      · cases oW (c :: r) <;> rfl
      · intro i hi hp
        unfold UR
        rw [bP,show decide ((i:Int)<((c :: r).length:Int))=true by rw [decide_eq_true_eq];omega,qZ,iZ hi,bS,hbad i hi,pI (show i<9223372036854775807 by simp at hi;omega)]
        cases hg:(if i=0 then wP (c :: r)[i] else sZ (c :: r)[i]) with
        | true =>
          refine .inl ⟨rfl,fun j hj hji=>?_⟩
          rcases Nat.lt_succ_iff_lt_or_eq.1 hji with h | rfl
          · exact hp j hj h
          · exact hg
        | false =>
          refine .inr ?_
          have:oW (c :: r)=false:=by
            rw [Bool.eq_false_iff]
            intro h
            simp only [oW,Bool.and_eq_true,decide_eq_true_eq] at h
            obtain ⟨⟨_,h1⟩,h2⟩:=h
            rw [List.all_eq_true] at h2
            cases i with
            | zero=>simp [h1] at hg
            | succ i =>
              simp at hg
              have:=h2 _ (List.getElem_mem (by simpa using hi:i<r.length))
              rw [this] at hg;cases hg
          rw [this];rfl
      · intro hp
        unfold UR
        rw [bP,show decide ((((c :: r).length:Nat):Int)<((c :: r).length:Int))=false by simp,qg]
        have:oW (c :: r)=true:=by
          simp only [oW,Bool.and_eq_true,decide_eq_true_eq]
          refine ⟨⟨hr,(by have h:=hp 0 (by simp) (by simp);rw [if_pos rfl] at h;exact h)⟩,?_⟩
          rw [List.all_eq_true]
          intro x hx
          obtain ⟨j,hj,rfl⟩:=List.getElem_of_mem hx
          have:=hp (j+1) (by simp;omega) (by simp;omega)
          simpa using this
        rw [this];rfl
theorem KW {N:Nat} {s:Str} (hN:13≤N):wM N s=some (oW s):=UU hN
end Go.KB
namespace Go.KB
set_option linter.unusedVariables false
theorem HY {O:Type} {n N:Nat} {f:Int→Option (Int ⊕ O)} (R:Nat→O) (hf:∀ i:Nat,i<n→(f (i:Int)=some (.inl ((i+1:Nat):Int))∧R i=R (i+1))∨f (i:Int)=some (.inr (R i))) (he:f (n:Int)=some (.inr (R n))) (hN:n<N):dh f N 0=some (R 0):=by
 have key:∀ k i,i+k=n→∀ M,k<M→dh f M (i:Int)=some (R i):=by
  intro k
  induction k with
  | zero =>
   intro i hi M hM
   obtain ⟨M,rfl⟩:∃ m,M=m+1:=⟨M - 1,by omega⟩
   have:i=n:=by omega
   subst this
   simp only [dh,he]
  | succ k ih =>
   intro i hi M hM
   obtain ⟨M,rfl⟩:∃ m,M=m+1:=⟨M - 1,by omega⟩
   rcases hf i (by omega) with ⟨h1,h2⟩ | h1
   ·simp only [dh,h1];rw [h2];exact ih (i+1) (by omega) M (by omega)
   ·simp only [dh,h1]
 exact key n 0 (by omega) N (by omega)
theorem drop_at {α:Type} {l:List α} {i:Nat} (h:i<l.length):l.drop i=l[i] :: l.drop (i+1):=List.drop_eq_getElem_cons h
theorem UW {α:Type} {l:List α} {N:Nat} {f:Int→Option (Int ⊕ (Unit ⊕ Bool))} {g:α→Bool} (hf:∀ (i:Nat) (h:i<l.length),f (i:Int)=bif g l[i] then some (.inl ((i+1:Nat):Int)) else some (.inr (.inr false))) (he:f (l.length:Int)=some (.inr (.inl ()))) (hN:l.length<N) :
  ((dh f N 0).bind fun o=>Sum.elim (fun _=>some true) (fun r=>some r) o)=some (l.all g):=by
 rw [HY (fun i=>bif (l.drop i).all g then .inl () else .inr false) (fun i hi=>?_) (by simp [he]) hN]
 ·simp only [List.drop_zero,bS];cases l.all g <;> rfl
 ·rw [hf i hi]
  simp only [drop_at hi,List.all_cons]
  cases g l[i]
  ·exact .inr rfl
  ·exact .inl ⟨rfl,by simp⟩
theorem Oz {α:Type} {l:List α} {N:Nat} {f:Int→Option (Int ⊕ (Unit ⊕ Bool))} {g:α→Bool} (hf:∀ (i:Nat) (h:i<l.length),f (i:Int)=bif g l[i] then some (.inr (.inr true)) else some (.inl ((i+1:Nat):Int))) (he:f (l.length:Int)=some (.inr (.inl ()))) (hN:l.length<N) :
  ((dh f N 0).bind fun o=>Sum.elim (fun _=>some false) (fun r=>some r) o)=some (l.any g):=by
 rw [HY (fun i=>bif (l.drop i).any g then .inr true else .inl ()) (fun i hi=>?_) (by simp [he]) hN]
 ·simp only [List.drop_zero,bS];cases l.any g <;> rfl
 ·rw [hf i hi]
  simp only [drop_at hi,List.any_cons]
  cases g l[i]
  ·exact .inl ⟨rfl,by simp⟩
  ·exact .inr rfl
def Ik {α:Type} (g:α→Bool) (l:List α):Int:=if l.findIdx g<l.length then (l.findIdx g:Int) else -1
theorem wC {α:Type} {l:List α} {N:Nat} {f:Int→Option (Int ⊕ (Unit ⊕ Int))} {g:α→Bool} (hf:∀ (i:Nat) (h:i<l.length),f (i:Int)=bif g l[i] then some (.inr (.inr (i:Int))) else some (.inl ((i+1:Nat):Int))) (he:f (l.length:Int)=some (.inr (.inl ()))) (hN:l.length<N) :
  ((dh f N 0).bind fun o=>Sum.elim (fun _=>some (-1:Int)) (fun r=>some r) o)=some (Ik g l):=by
 rw [HY (fun i=>if (l.drop i).findIdx g<(l.drop i).length then .inr (((i+(l.drop i).findIdx g:Nat)):Int) else .inl ()) (fun i hi=>?_) (by simp [he]) hN]
 ·simp only [List.drop_zero,Nat.zero_add,bS,Ik];split <;> rfl
 ·rw [hf i hi]
  simp only [drop_at hi,List.findIdx_cons]
  cases g l[i]
  ·refine .inl ⟨rfl,?_⟩
   simp only [qg,List.length_cons,Nat.add_lt_add_iff_right]
   split
   ·congr 2;omega
   ·rfl
  ·refine .inr ?_
   simp only [qZ,List.length_cons,Nat.zero_lt_succ,if_true,Nat.add_zero]
theorem BB {α:Type} {g:α→Bool} {l:List α} (h:l.findIdx g<l.length):Ik g l=(l.findIdx g:Int):=if_pos h
theorem EM {α:Type} {g:α→Bool} {l:List α} (h:¬ l.findIdx g<l.length):Ik g l = -1:=if_neg h
theorem DL {α:Type} {g:α→Bool} {l:List α}:decide (Ik g l<0) = !l.any g:=by
 have:l.any g=true↔l.findIdx g<l.length:=by
  rw [List.any_eq_true]
  exact List.findIdx_lt_length.symm
 by_cases h:l.findIdx g<l.length
 ·rw [BB h,this.2 h];simp
 ·rw [EM h,Bool.eq_false_iff.2 (fun x=>h (this.1 x))];rfl
theorem OD {N:Nat} {s:Str} (hN:13≤N):mG N s=some (oW s):=by
  unfold mG
  by_cases hlen:s.length<1∨12<s.length
  · have hc : (aJ .lss (s.length : Int) 1 || aJ .gtr (s.length : Int) 12) = true := by simp; omega
    rw [hc]
    simp only [Bool.not_true,qg,bS,Bool.true_or,qZ]
    congr 1
    unfold oW
    rcases hlen with h | h
    · have : s = [] := List.eq_nil_of_length_eq_zero (by omega)
      subst this;rfl
    · cases s with
      | nil=>rfl
      | cons c r=>simp at h;simp;intro h';omega
  · have hc : (aJ .lss (s.length : Int) 1 || aJ .gtr (s.length : Int) 12) = false := by rw [Bool.or_eq_false_iff]; simp; omega
    rw [hc]
    cases s with
    | nil=>simp at hlen
    | cons c r =>
      have hr:r.length<12:=by simp at hlen;omega
      have hl:∀ x:UInt8,uZ N ((UInt8.toNat x:Nat):Int)=some (wP x):=fun x=>rfl
      have h0:idx (c :: r) 0=some c:=by have:=iZ (xs:=c :: r) (i:=0) (by simp);simpa using this
      simp only [Bool.not_false,qZ,h0,bS,hl,Bool.false_or]
      cases hc:wP c with
      | false=>simp [oW,hc]
      | true =>
        simp only [Bool.not_true,qg]
        have h1:∀ (i:Nat) (hi:i<(c :: r).length),oV N (c :: r) (i:Int)=bif sZ (c :: r)[i] then some (.inl ((i+1:Nat):Int)) else some (.inr (.inr false)):=by
          intro i hi
          unfold oV
          rw [bP,dT (by omega),qZ,iZ hi,bS,hl,bS,pI (show i<9223372036854775807 by simp at hi;omega)]
          have:((!wP (c :: r)[i]&&aJ .neq ((UInt8.toNat (c :: r)[i]:Nat):Int) 45)&&(aJ .lss ((UInt8.toNat (c :: r)[i]:Nat):Int) 48||aJ .gtr ((UInt8.toNat (c :: r)[i]:Nat):Int) 57)) = !sZ (c :: r)[i]:=by
            unfold sZ VN
            cases wP (c :: r)[i]
            · simp only [Bool.not_false,Bool.true_and,Bool.false_or,pV,bP,rf]
              generalize ((UInt8.toNat (c :: r)[i]:Nat):Int)=x
              rw [Bool.eq_iff_iff]
              simp only [Bool.and_eq_true,Bool.or_eq_true,Bool.not_eq_true',Bool.or_eq_false_iff,Bool.and_eq_false_iff,decide_eq_true_eq,decide_eq_false_iff_not]
              omega
            · simp
          rw [this]
          cases sZ (c :: r)[i] <;> rfl
        have h2:oV N (c :: r) ((c :: r).length:Int)=some (.inr (.inl ())):=by
          unfold oV
          rw [bP,dF (by omega),qg]
        rw [UW h1 h2 (by simp;omega)]
        simp [oW,hc,sZ,hr]
instance:Inhabited bV:=⟨⟨[],false,[]⟩⟩
instance:Inhabited aF:=⟨⟨[],0,[],0,0,[]⟩⟩
instance:Inhabited bG:=⟨⟨0,0,0⟩⟩
def isS (s:Str) (y:bV):Bool:=decide (y.Name=s)
def MO (s:Str) (y:aF):Bool:=decide (y.Name=s)
theorem Sv {N:Nat} {l:List bV} {f:bV→Option Bool} {g:bV→Bool} (hf:∀ y,f y=some (g y)) (hl:l.length<1000000) (hN:1000000≤N):iO N l f=some (Ik g l):=by
 unfold iO
 refine wC (fun i hi=>?_) ?_ (by omega)
 ·unfold ig
  rw [bP,dT (by omega),qZ,iZ hi,bS,hf,bS,pI (by omega)]
 ·unfold ig
  rw [bP,dF (by omega),qg]
theorem KR {N:Nat} {l:List aF} {f:aF→Option Bool} {g:aF→Bool} (hf:∀ y,f y=some (g y)) (hl:l.length<1000000) (hN:1000000≤N):fK N l f=some (Ik g l):=by
 unfold fK
 refine wC (fun i hi=>?_) ?_ (by omega)
 ·unfold gU
  rw [bP,dT (by omega),qZ,iZ hi,bS,hf,bS,pI (by omega)]
 ·unfold gU
  rw [bP,dF (by omega),qg]
theorem CW {N:Nat} {p:GPermitPlan} {s:Str} (hl:p.bU.length<1000000) (hN:1000000≤N):oZ N p s=some (Ik (isS s) p.bU):=by
 unfold oZ
 refine wC (fun i hi=>?_) ?_ (by omega)
 ·unfold uD
  rw [bP,dT (by omega),qZ,iZ hi,bS,uH,pI (by omega)];rfl
 ·unfold uD
  rw [bP,dF (by omega),qg]
theorem FT {N:Nat} {p:GPermitPlan} {s:Str} (hl:p.ay.length<1000000) (hN:1000000≤N):qU N p s=some (Ik (MO s) p.ay):=by
 unfold qU
 refine wC (fun i hi=>?_) ?_ (by omega)
 ·unfold su
  rw [bP,dT (by omega),qZ,iZ hi,bS,uH,pI (by omega)];rfl
 ·unfold su
  rw [bP,dF (by omega),qg]
def zk {α:Type} (z:α) (g:α→Bool) (l:List α):α×Bool:=match l.find? g with | some y=>(y,true) | none=>(z,false)
theorem IV {α:Type} {g:α→Bool}:∀ {l:List α},(l.findIdx g<l.length∧∃ h:l.findIdx g<l.length,l.find? g=some l[l.findIdx g])∨(¬ l.findIdx g<l.length∧l.find? g=none):=by
 intro l
 by_cases h:l.findIdx g<l.length
 ·refine .inl ⟨h,h,?_⟩
  exact (List.find?_eq_getElem?_findIdx ..).trans (List.getElem?_eq_getElem h)
 ·refine .inr ⟨h,?_⟩
  rw [List.find?_eq_getElem?_findIdx,List.getElem?_eq_none (by omega)]
theorem FU {N:Nat} {p:GPermitPlan} {s:Str} (hl:p.bU.length<1000000) (hN:1000000≤N):iF N p s=some (zk ⟨[],false,[]⟩ (isS s) p.bU):=by
 unfold iF
 rw [Sv (g:=isS s) (fun y=>by unfold qV;rw [uH];rfl) hl hN,bS,bP]
 unfold zk
 rcases IV (g:=isS s) (l:=p.bU) with ⟨_,h,h2⟩ | ⟨h,h2⟩
 ·rw [h2,BB h,dF (by omega),qg,iZ h];rfl
 ·rw [h2,EM h];rfl
theorem OE {N:Nat} {p:GPermitPlan} {s:Str} (hl:p.ay.length<1000000) (hN:1000000≤N):lV N p s=some (zk ⟨[],0,[],0,0,[]⟩ (MO s) p.ay):=by
 unfold lV
 rw [KR (g:=MO s) (fun y=>by unfold qp;rw [uH];rfl) hl hN,bS,bP]
 unfold zk
 rcases IV (g:=MO s) (l:=p.ay) with ⟨_,h,h2⟩ | ⟨h,h2⟩
 ·rw [h2,BB h,dF (by omega),qg,iZ h];rfl
 ·rw [h2,EM h];rfl
theorem KX {α:Type} {z:α} {g:α→Bool} {l:List α}:(zk z g l).2=l.any g:=by
 unfold zk
 cases h:l.find? g with
 | none=>simp only [];rw [eq_comm,Bool.eq_false_iff];intro hx;rw [List.any_eq_true] at hx;obtain ⟨x,hx,hg⟩:=hx;exact absurd hg (by simpa using List.find?_eq_none.1 h x hx)
 | some y=>simp only [];rw [eq_comm,List.any_eq_true];exact ⟨y,List.mem_of_find?_eq_some h,List.find?_some h⟩
end Go.KB
namespace Go.KB
set_option linter.unusedVariables false
def Et (a b:Int):Int:=if a=0 then b else a
def yL (k:Int):Bool:=decide (0≤k)&&decide (k≤5)
def GL (p:GPermitPlan) (i:Nat):Str:=p.bU[i]!.Name
def IU (p:GPermitPlan) (i:Nat):Str:=p.ay[i]!.Name
def Es (p:GPermitPlan) (s:Str):Bool:=p.bU.any (isS s)
def Ep (p:GPermitPlan) (s:Str):Bool:=p.ay.any (MO s)
def Qa (p:GPermitPlan) (s:Str):aF:=(zk ⟨[],0,[],0,0,[]⟩ (MO s) p.ay).1
def QS (p:GPermitPlan) (s:Str):bV:=(zk ⟨[],false,[]⟩ (isS s) p.bU).1
def UO (p:GPermitPlan) (i:Nat):Int:=if oW (GL p i)=false then 4 else if dup (GL p) i (GL p i)=true then 5 else if 30<p.bU[i]!.Next.length then 8 else 0
def eNx (p:GPermitPlan) (y:bV) (j:Nat):Int:=if Es p y.Next[j]! = false then 6 else if y.Next[j]! = y.Name then 3 else 0
def JK (p:GPermitPlan) (i:Nat):Int:=fG (eNx p p.bU[i]!) p.bU[i]!.Next.length 0
def eEx (p:GPermitPlan) (i:Nat):Int:=if yL p.dm[i]!.A=false∨yL p.dm[i]!.B=false∨p.dm[i]!.Reach<0∨2<p.dm[i]!.Reach then 2 else 0
def V8 (p:GPermitPlan) (i:Nat):Int:=if oW (IU p i)=false then 4 else if dup (IU p) i (IU p i)=true then 5 else
 if yL p.ay[i]!.Kind=false∨p.ay[i]!.From<0∨p.ay[i]!.To≤p.ay[i]!.From∨1000000<p.ay[i]!.To then 2 else if Es p p.ay[i]!.Space=false then 6 else if 10<p.ay[i]!.Locks.length then 8 else 0
def eLk (p:GPermitPlan) (y:aF) (j:Nat):Int:=if Ep p y.Locks[j]! = false then 6 else if (Qa p y.Locks[j]!).Kind≠5∨y.Kind=5 then 3 else 0
def OG (p:GPermitPlan) (i:Nat):Int:=fG (eLk p p.ay[i]!) p.ay[i]!.Locks.length 0
def oz (p:GPermitPlan):Int:=if 30<p.bU.length∨30<p.dm.length∨20<p.ay.length then 8 else if p.dX<1∨10000<p.dX then 2 else
 Et (Et (fG (UO p) p.bU.length 0) (fG (JK p) p.bU.length 0)) (Et (fG (eEx p) p.dm.length 0) (Et (fG (V8 p) p.ay.length 0) (fG (OG p) p.ay.length 0)))
structure J4 (p:GPermitPlan):Prop where
 s:p.bU.length<1000
 x:p.dm.length<1000
 m:p.ay.length<1000
 n:∀ y ∈ p.bU,y.Next.length<1000
 l:∀ y ∈ p.ay,y.Locks.length<1000
theorem sK {α:Type} [Inhabited α] {l:List α} {i:Nat} (h:i<l.length):l[i]! ∈ l:=by rw [xR h];exact List.getElem_mem h
theorem tq {A:Type} {fin:A} {E:Int} {K:A→Option Int}:((some (sN (Sum.inl fin) (fun e=>Sum.inr e) E):Option (A ⊕ Int)).bind fun o=>Sum.elim (fun l=>K l) (fun r=>some r) o)=if E=0 then K fin else some E:=by
 unfold sN
 by_cases h:E=0
 ·rw [if_pos h,if_pos h];rfl
 ·rw [if_neg h,if_neg h];rfl
theorem Qe {α:Type} [Inhabited α] {nm:α→Str} {x:Str} {l:List α} {i:Nat} (hi:i≤l.length):dup (fun j=>nm l[j]!) i x=(decide (0≤Ik (fun y=>decide (nm y=x)) l)&&decide (Ik (fun y=>decide (nm y=x)) l<(i:Int))):=by
 rw [Bool.eq_iff_iff,MP,Bool.and_eq_true,decide_eq_true_eq,decide_eq_true_eq]
 constructor
 ·rintro ⟨j,hj,hx⟩
  have hjl:j<l.length:=by omega
  rw [xR hjl] at hx
  have hle:l.findIdx (fun y=>decide (nm y=x))≤j:=by
   rcases Nat.lt_or_ge j (l.findIdx (fun y=>decide (nm y=x))) with h | h
   ·exact absurd (List.not_of_lt_findIdx h) (by simp [hx])
   ·exact h
  rw [BB (by omega)]
  omega
 ·rintro ⟨h1,h2⟩
  by_cases h:l.findIdx (fun y=>decide (nm y=x))<l.length
  ·rw [BB h] at h2
   refine ⟨l.findIdx (fun y=>decide (nm y=x)),by omega,?_⟩
   show nm l[l.findIdx (fun y=>decide (nm y=x))]! = x
   rw [xR h]
   have:=List.findIdx_getElem (xs:=l) (p:=fun y=>decide (nm y=x)) (w:=h)
   simpa using this
  ·rw [EM h] at h1;omega
theorem VO {α:Type} [Inhabited α] {nm:α→Str} {x:Str} {l:List α}:dup (fun j=>nm l[j]!) l.length x=l.any (fun y=>decide (nm y=x)):=by
 rw [Qe (Nat.le_refl _)]
 have:=DL (g:=fun y=>decide (nm y=x)) (l:=l)
 by_cases h:l.findIdx (fun y=>decide (nm y=x))<l.length
 ·rw [BB h] at this ⊢
  rw [dF (by omega)] at this
  rw [dT (by omega),dT (by omega)]
  cases hx:l.any (fun y=>decide (nm y=x)) with
  | true=>rfl
  | false=>rw [hx] at this;cases this
 ·rw [EM h] at this ⊢
  cases hx:l.any (fun y=>decide (nm y=x)) with
  | false=>rfl
  | true=>rw [hx] at this;cases this
theorem QW {N:Nat} {k:Int}:vI N k=some (yL k):=rfl
theorem UX {N:Nat} {k:Int}:wz N k=some (yL k):=rfl
section
variable {N:Nat} {p:GPermitPlan} (hp:J4 p) (hN:1000000≤N)
include hp hN
theorem cs3:dh (kR N p) N (([]:List (Str×Bool)),0)=some (sN (.inl (seen (GL p) p.bU.length)) (fun e=>.inr e) (fG (UO p) p.bU.length 0)):=by
 have hs:=hp.s
 refine KU (fun i=>(seen (GL p) i,(i:Int))) (fun i hi _=>?_) (fun _=>?_) (by omega)
 ·unfold kR UO
  simp only []
  rw [bP,dT (by omega),qZ,yK hi,bS,OD (by omega),bS,GK,pI (by omega),rf]
  show (bif !oW (GL p i) then _ else bif dup (GL p) i (GL p i) then _ else _)=_
  cases oW (GL p i) with
  | false=>rfl
  | true =>
   cases dup (GL p) i (GL p i) with
   | true=>rfl
   | false =>
    by_cases h:30<p.bU[i]!.Next.length
    ·rw [dT (show (30:Int)<(p.bU[i]!.Next.length:Int) by omega),if_pos h];rfl
    ·rw [dF (show ¬ (30:Int)<(p.bU[i]!.Next.length:Int) by omega),if_neg h];rfl
 ·unfold kR
  simp only []
  rw [bP,dF (by omega),qg]
theorem cs1 {y:bV} (hy:y ∈ p.bU):dh (kT N (seen (GL p) p.bU.length) y) N 0=some (sN (.inl ()) (fun e=>.inr e) (fG (eNx p y) y.Next.length 0)):=by
 have hl:=hp.n y hy
 refine wo (fun i hi _=>?_) (fun _=>?_) (by omega)
 ·unfold kT eNx
  rw [bP,dT (by omega),qZ,yK hi,bS,GK,show dup (GL p) p.bU.length y.Next[i]! = Es p y.Next[i]! from VO,pI (by omega),uH]
  cases Es p y.Next[i]! with
  | false=>rfl
  | true =>
   by_cases h:y.Next[i]! = y.Name
   ·rw [dT h,if_pos h];rfl
   ·rw [dF h,if_neg h];rfl
 ·unfold kT
  rw [bP,dF (by omega),qg]
theorem cs2:dh (kS N p (seen (GL p) p.bU.length)) N 0=some (sN (.inl ()) (fun e=>.inr e) (fG (JK p) p.bU.length 0)):=by
 have hs:=hp.s
 refine wo (fun i hi _=>?_) (fun _=>?_) (by omega)
 ·unfold kS
  rw [bP,dT (by omega),qZ,yK hi,bS,cs1 hp hN (sK hi),pI (by omega),bS]
  show Sum.elim _ _ (sN _ _ (JK p i))=_
  unfold sN
  by_cases h:JK p i=0
  ·rw [if_pos h,if_pos h];rfl
  ·rw [if_neg h,if_neg h];rfl
 ·unfold kS
  rw [bP,dF (by omega),qg]
theorem JL:pG N p=some (Et (fG (UO p) p.bU.length 0) (fG (JK p) p.bU.length 0)):=by
 unfold pG
 rw [cs3 hp hN,tq,cs2 hp hN,tq]
 unfold Et
 split
 ·split
  ·rename_i h;rw [h]
  ·rfl
 ·rfl
theorem rcs3:dh (lq N p) N 0=some (sN (.inl ()) (fun e=>.inr e) (fG (UO p) p.bU.length 0)):=by
 have hs:=hp.s
 refine wo (fun i hi _=>?_) (fun _=>?_) (by omega)
 ·unfold lq UO
  rw [bP,dT (by omega),qZ,yK hi,bS,KW (by omega),bS]
  have hd:uF N p (i:Int) (GL p i)=some (dup (GL p) i (GL p i)):=by
   unfold uF
   rw [CW (by omega) hN,bS,Bz,bP]
   exact congrArg some (Qe (nm:=bV.Name) (x:=GL p i) (l:=p.bU) (Nat.le_of_lt hi)).symm
  rw [bS,show uF N p (i:Int) p.bU[i]!.Name=_ from hd,bS,bS,pI (by omega),rf]
  show (bif !oW (GL p i) then _ else bif dup (GL p) i (GL p i) then _ else _)=_
  cases oW (GL p i) with
  | false=>rfl
  | true =>
   cases dup (GL p) i (GL p i) with
   | true=>rfl
   | false =>
    by_cases h:30<p.bU[i]!.Next.length
    ·rw [dT (show (30:Int)<(p.bU[i]!.Next.length:Int) by omega),if_pos h];rfl
    ·rw [dF (show ¬ (30:Int)<(p.bU[i]!.Next.length:Int) by omega),if_neg h];rfl
 ·unfold lq
  rw [bP,dF (by omega),qg]
theorem rcs1 {i:Nat} (hi:i<p.bU.length):dh (lC N p (i:Int)) N 0=some (sN (.inl ()) (fun e=>.inr e) (JK p i)):=by
 have hl:=hp.n _ (sK hi)
 have hs:=hp.s
 refine wo (fun j hj _=>?_) (fun _=>?_) (by omega)
 ·unfold lC eNx
  rw [yK hi,bS,bP,dT (by omega),qZ,bS,yK hj,bS,CW (by omega) hN,bS,bP,DL,bS,yK hj,bS,bS,pI (by omega),uH]
  show (bif !Es p _ then _ else _)=_
  cases Es p p.bU[i]!.Next[j]! with
  | false=>rfl
  | true =>
   by_cases h:p.bU[i]!.Next[j]! = p.bU[i]!.Name
   ·rw [dT h,if_pos h];rfl
   ·rw [dF h,if_neg h];rfl
 ·unfold lC
  rw [yK hi,bS,bP,dF (by omega),qg]
theorem rcs2:dh (lu N p) N 0=some (sN (.inl ()) (fun e=>.inr e) (fG (JK p) p.bU.length 0)):=by
 have hs:=hp.s
 refine wo (fun i hi _=>?_) (fun _=>?_) (by omega)
 ·unfold lu
  rw [bP,dT (by omega),qZ,rcs1 hp hN hi,pI (by omega),bS]
  unfold sN
  by_cases h:JK p i=0
  ·rw [if_pos h,if_pos h];rfl
  ·rw [if_neg h,if_neg h];rfl
 ·unfold lu
  rw [bP,dF (by omega),qg]
theorem IA:qo N p=some (Et (fG (UO p) p.bU.length 0) (fG (JK p) p.bU.length 0)):=by
 unfold qo
 rw [rcs3 hp hN,tq,rcs2 hp hN,tq]
 unfold Et
 split
 ·split
  ·rename_i h;rw [h]
  ·rfl
 ·rfl
omit hp hN in
theorem ex_eq {a b:Bool} {r:Int}:((((!a)||(!(bif !(!a) then b else false)))||(aJ .lss r 0))||(aJ .gtr r 2))=decide (a=false∨b=false∨r<0∨2<r):=by
 rw [Bool.eq_iff_iff,bP,rf]
 cases a <;> cases b <;> simp
omit hN in
theorem exL (hN2:p.dm.length<N):dh (lY N p) N 0=some (sN (.inl ()) (fun e=>.inr e) (fG (eEx p) p.dm.length 0)):=by
 have hs:=hp.x
 refine wo (fun i hi _=>?_) (fun _=>?_) hN2
 ·unfold lY eEx
  simp only [QW]
  rw [bP,dT (by omega),qZ,yK hi,bS,bS,J5,bS,pI (by omega),ex_eq]
  by_cases h:yL p.dm[i]!.A=false∨yL p.dm[i]!.B=false∨p.dm[i]!.Reach<0∨2<p.dm[i]!.Reach
  ·rw [dT h,if_pos h];rfl
  ·rw [dF h,if_neg h];rfl
 ·unfold lY
  rw [bP,dF (by omega),qg]
omit hN in
theorem rexL (hN2:p.dm.length<N):dh (sD N p) N 0=some (sN (.inl ()) (fun e=>.inr e) (fG (eEx p) p.dm.length 0)):=exL hp hN2
omit hp hN in
theorem Wh {a:Bool} {x y:Int}:((((!a)||(aJ .lss x 0))||(aJ .geq x y))||(aJ .gtr y 1000000))=decide (a=false∨x<0∨y≤x∨1000000<y):=by
 rw [Bool.eq_iff_iff,bP,rf,Bz]
 cases a <;> simp [or_assoc]
theorem pm3:dh (kF N p) N (([]:List (Str×Bool)),0)=some (sN (.inl ()) (fun e=>.inr e) (fG (V8 p) p.ay.length 0)):=by
 have hs:=hp.s
 have hm:=hp.m
 refine KU (fun i=>(seen (IU p) i,(i:Int))) (fun i hi _=>?_) (fun _=>?_) (by omega)
 ·unfold kF V8
  simp only []
  rw [bP,dT (by omega),qZ,yK hi,bS,FU (by omega) hN,bS,OD (by omega),bS,GK,pI (by omega),QW,bS,Wh,KX,rf]
  show (bif !oW (IU p i) then _ else bif dup (IU p) i (IU p i) then _ else bif _ then _ else bif !Es p p.ay[i]!.Space then _ else _)=_
  cases oW (IU p i) with
  | false=>rfl
  | true =>
   cases dup (IU p) i (IU p i) with
   | true=>rfl
   | false =>
    by_cases h:yL p.ay[i]!.Kind=false∨p.ay[i]!.From<0∨p.ay[i]!.To≤p.ay[i]!.From∨1000000<p.ay[i]!.To
    ·rw [dT h,if_pos h];rfl
    ·rw [dF h,if_neg h]
     cases Es p p.ay[i]!.Space with
     | false=>rfl
     | true =>
      by_cases h:10<p.ay[i]!.Locks.length
      ·rw [dT (show (10:Int)<(p.ay[i]!.Locks.length:Int) by omega),if_pos h];rfl
      ·rw [dF (show ¬ (10:Int)<(p.ay[i]!.Locks.length:Int) by omega),if_neg h];rfl
 ·unfold kF
  simp only []
  rw [bP,dF (by omega),qg]
theorem rpm3:dh (nH N p) N 0=some (sN (.inl ()) (fun e=>.inr e) (fG (V8 p) p.ay.length 0)):=by
 have hs:=hp.s
 have hm:=hp.m
 refine wo (fun i hi _=>?_) (fun _=>?_) (by omega)
 ·unfold nH V8
  have hd:aJ .lss (Ik (MO p.ay[i]!.Name) p.ay) (i:Int)=dup (IU p) i (IU p i):=by
   have h1:=Qe (nm:=aF.Name) (x:=IU p i) (l:=p.ay) (Nat.le_of_lt hi)
   have h2:(0:Int)≤Ik (MO p.ay[i]!.Name) p.ay:=by
    have:=DL (g:=MO p.ay[i]!.Name) (l:=p.ay)
    have h3:p.ay.any (MO p.ay[i]!.Name)=true:=List.any_eq_true.2 ⟨_,sK hi,by simp [MO]⟩
    rw [h3] at this
    simpa using this
   rw [bP]
   show _=dup (fun j=>p.ay[j]!.Name) i (IU p i)
   rw [h1]
   show _=(decide ((0:Int)≤Ik (MO p.ay[i]!.Name) p.ay)&&decide (Ik (MO p.ay[i]!.Name) p.ay<(i:Int)))
   rw [dT h2,Bool.true_and]
  rw [bP,dT (by omega),qZ,yK hi,bS,KW (by omega),bS,FT (by omega) hN,bS,hd,UX,bS,Wh,CW (by omega) hN,bS,bP,DL,rf,pI (by omega)]
  show (bif !oW (IU p i) then _ else bif dup (IU p) i (IU p i) then _ else bif _ then _ else bif !Es p p.ay[i]!.Space then _ else _)=_
  cases oW (IU p i) with
  | false=>rfl
  | true =>
   cases dup (IU p) i (IU p i) with
   | true=>rfl
   | false =>
    by_cases h:yL p.ay[i]!.Kind=false∨p.ay[i]!.From<0∨p.ay[i]!.To≤p.ay[i]!.From∨1000000<p.ay[i]!.To
    ·rw [dT h,if_pos h];rfl
    ·rw [dF h,if_neg h]
     cases Es p p.ay[i]!.Space with
     | false=>rfl
     | true =>
      by_cases h:10<p.ay[i]!.Locks.length
      ·rw [dT (show (10:Int)<(p.ay[i]!.Locks.length:Int) by omega),if_pos h];rfl
      ·rw [dF (show ¬ (10:Int)<(p.ay[i]!.Locks.length:Int) by omega),if_neg h];rfl
 ·unfold nH
  rw [bP,dF (by omega),qg]
omit hp hN in
theorem Wi {a b:Int}:((aJ .neq a 5)||(aJ .eql b 5))=decide (a≠5∨b=5):=by
 rw [Bool.eq_iff_iff,pV,uU];simp
theorem lk1 {y:aF} (hy:y ∈ p.ay):dh (kH N p y) N 0=some (sN (.inl ()) (fun e=>.inr e) (fG (eLk p y) y.Locks.length 0)):=by
 have hm:=hp.m
 have hl:=hp.l y hy
 refine wo (fun i hi _=>?_) (fun _=>?_) (by omega)
 ·unfold kH eLk
  rw [bP,dT (by omega),qZ,yK hi,bS,OE (by omega) hN,bS,KX,Wi,pI (by omega)]
  show (bif !Ep p y.Locks[i]! then _ else bif decide ((Qa p y.Locks[i]!).Kind≠5∨y.Kind=5) then _ else _)=_
  cases Ep p y.Locks[i]! with
  | false=>rfl
  | true =>
   by_cases h:(Qa p y.Locks[i]!).Kind≠5∨y.Kind=5
   ·rw [dT h,if_pos h];rfl
   ·rw [dF h,if_neg h];rfl
 ·unfold kH
  rw [bP,dF (by omega),qg]
theorem lk2:dh (kG N p) N 0=some (sN (.inl ()) (fun e=>.inr e) (fG (OG p) p.ay.length 0)):=by
 have hm:=hp.m
 refine wo (fun i hi _=>?_) (fun _=>?_) (by omega)
 ·unfold kG
  rw [bP,dT (by omega),qZ,yK hi,bS,lk1 hp hN (sK hi),pI (by omega),bS]
  show Sum.elim _ _ (sN _ _ (OG p i))=_
  unfold sN
  by_cases h:OG p i=0
  ·rw [if_pos h,if_pos h];rfl
  ·rw [if_neg h,if_neg h];rfl
 ·unfold kG
  rw [bP,dF (by omega),qg]
theorem rlk1 {y:aF} (hy:y ∈ p.ay):dh (nJ N p y) N 0=some (sN (.inl ()) (fun e=>.inr e) (fG (eLk p y) y.Locks.length 0)):=by
 have hm:=hp.m
 have hl:=hp.l y hy
 refine wo (fun i hi _=>?_) (fun _=>?_) (by omega)
 ·unfold nJ eLk
  rw [bP,dT (by omega),qZ,yK hi,bS,FT (by omega) hN,bS,bP,DL,pI (by omega)]
  show (bif !Ep p y.Locks[i]! then _ else _)=_
  cases hx:Ep p y.Locks[i]! with
  | false=>rfl
  | true =>
   rw [Bool.not_true,qg]
   have hg:idx p.ay (Ik (MO y.Locks[i]!) p.ay)=some (Qa p y.Locks[i]!):=by
    unfold Qa zk
    rcases IV (g:=MO y.Locks[i]!) (l:=p.ay) with ⟨_,h,h2⟩ | ⟨h,h2⟩
    ·rw [h2,BB h,iZ h]
    ·have:=DL (g:=MO y.Locks[i]!) (l:=p.ay)
     rw [show p.ay.any (MO y.Locks[i]!)=true from hx,EM h] at this
     cases this
   rw [hg,bS,Wi]
   by_cases h:(Qa p y.Locks[i]!).Kind≠5∨y.Kind=5
   ·rw [dT h,if_pos h];rfl
   ·rw [dF h,if_neg h];rfl
 ·unfold nJ
  rw [bP,dF (by omega),qg]
theorem rlk2:dh (nI N p) N 0=some (sN (.inl ()) (fun e=>.inr e) (fG (OG p) p.ay.length 0)):=by
 have hm:=hp.m
 refine wo (fun i hi _=>?_) (fun _=>?_) (by omega)
 ·unfold nI
  rw [bP,dT (by omega),qZ,yK hi,bS,rlk1 hp hN (sK hi),pI (by omega),bS]
  show Sum.elim _ _ (sN _ _ (OG p i))=_
  unfold sN
  by_cases h:OG p i=0
  ·rw [if_pos h,if_pos h];rfl
  ·rw [if_neg h,if_neg h];rfl
 ·unfold nI
  rw [bP,dF (by omega),qg]
theorem IB:oJ N p=some (Et (fG (V8 p) p.ay.length 0) (fG (OG p) p.ay.length 0)):=by
 unfold oJ
 rw [pm3 hp hN,tq,lk2 hp hN,tq]
 unfold Et
 split
 ·split
  ·rename_i h;rw [h]
  ·rfl
 ·rfl
omit hp hN in
theorem UY:(((aJ .gtr (List.length p.bU:Int) 30)||(aJ .gtr (List.length p.dm:Int) 30))||(aJ .gtr (List.length p.ay:Int) 20))=decide (30<p.bU.length∨30<p.dm.length∨20<p.ay.length):=by
 rw [Bool.eq_iff_iff];simp only [rf,Bool.or_eq_true,decide_eq_true_eq];omega
omit hp hN in
theorem UZ {g:Int}:((aJ .lss g 1)||(aJ .gtr g 10000))=decide (g<1∨10000<g):=by
 rw [Bool.eq_iff_iff];simp
theorem MJ:mZ N p=some (oz p):=by
  have hx:=hp.x
  unfold mZ oz
  rw [UY,UZ]
  by_cases h:30<p.bU.length∨30<p.dm.length∨20<p.ay.length
  · rw [dT h,if_pos h];rfl
  · rw [dF h,if_neg h,qg]
    by_cases h:p.dX<1∨10000<p.dX
    · rw [dT h,if_pos h];rfl
    · rw [dF h,if_neg h,qg,JL hp hN,bS,pV]
      generalize Et (fG (UO p) p.bU.length 0) (fG (JK p) p.bU.length 0)=E
      unfold Et
      by_cases h:E=0
      · rw [dT h, if_pos h, Bool.not_true, qg, exL hp (by omega), tq, IB hp hN]
        unfold Et
        split
        · rfl
        · rfl
      · rw [dF h,if_neg h];rfl
theorem yP:pU N p=some (oz p):=by
  have hx:=hp.x
  unfold pU oz
  rw [UY,UZ]
  by_cases h:30<p.bU.length∨30<p.dm.length∨20<p.ay.length
  · rw [dT h,if_pos h];rfl
  · rw [dF h,if_neg h,qg]
    by_cases h:p.dX<1∨10000<p.dX
    · rw [dT h,if_pos h];rfl
    · rw [dF h,if_neg h,qg,IA hp hN,bS,pV]
      generalize Et (fG (UO p) p.bU.length 0) (fG (JK p) p.bU.length 0)=E
      unfold Et
      by_cases h:E=0
      · rw [dT h, if_pos h, Bool.not_true, qg, rexL hp (by omega), tq, rpm3 hp hN, tq, rlk2 hp hN, tq]
        split
        · split
          · split
            · rename_i h1 h2 h3;rw [h3]
            · rfl
          · rfl
        · rfl
      · rw [dF h,if_neg h];rfl
end
end Go.KB
namespace Go.KB
set_option linter.unusedVariables false
theorem UE {N:Nat} (p:GPermitPlan) (hN:1000000≤N):vH N p=some true∨(vH N p=some false∧J4 p∧p.bU.length≤40∧p.dm.length≤40∧p.ay.length≤30∧(∀ y ∈ p.bU,y.Next.length≤40∧y.Name.length≤40)∧∀ y ∈ p.ay,y.Locks.length≤20∧y.Name.length≤40):=by
  unfold vH
  have hb:(((aJ .gtr (List.length p.bU:Int) 40)||(aJ .gtr (List.length p.dm:Int) 40))||(aJ .gtr (List.length p.ay:Int) 30))=decide (40<p.bU.length∨40<p.dm.length∨30<p.ay.length):=by
    rw [Bool.eq_iff_iff];simp only [rf,Bool.or_eq_true,decide_eq_true_eq];omega
  rw [hb]
  by_cases h:40<p.bU.length∨40<p.dm.length∨30<p.ay.length
  · rw [dT h];exact .inl rfl
  rw [dF h,qg]
  have hs:∀ (i:Nat) (hi:i<p.bU.length),nD N p (i:Int)=bif (decide (40<p.bU[i].Next.length)||decide (40<p.bU[i].Name.length)) then some (.inr (.inr true)) else some (.inl ((i+1:Nat):Int)):=by
    intro i hi
    unfold nD
    rw [bP,dT (by omega),qZ,iZ hi,bS,pI (by omega)]
    simp only [rf]
    by_cases h1:40<p.bU[i].Next.length
    · rw [dT h1,dT (show (40:Int)<(p.bU[i].Next.length:Int) by omega)];rfl
    · rw [dF h1, dF (show ¬ (40 : Int) < (p.bU[i].Next.length : Int) by omega), Bool.not_false, qZ, bS, Bool.false_or, Bool.false_or]
      by_cases h2:40<p.bU[i].Name.length
      · rw [dT h2,dT (show (40:Int)<(p.bU[i].Name.length:Int) by omega)]
      · rw [dF h2,dF (show ¬ (40:Int)<(p.bU[i].Name.length:Int) by omega)]
  have hs2:nD N p (p.bU.length:Int)=some (.inr (.inl ())):=by
    unfold nD
    rw [bP,dF (by omega),qg]
  have hm:∀ (i:Nat) (hi:i<p.ay.length),nG N p (i:Int)=bif (decide (20<p.ay[i].Locks.length)||decide (40<p.ay[i].Name.length)) then some (.inr (.inr true)) else some (.inl ((i+1:Nat):Int)):=by
    intro i hi
    unfold nG
    rw [bP,dT (by omega),qZ,iZ hi,bS,pI (by omega)]
    simp only [rf]
    by_cases h1:20<p.ay[i].Locks.length
    · rw [dT h1,dT (show (20:Int)<(p.ay[i].Locks.length:Int) by omega)];rfl
    · rw [dF h1, dF (show ¬ (20 : Int) < (p.ay[i].Locks.length : Int) by omega), Bool.not_false, qZ, bS, Bool.false_or, Bool.false_or]
      by_cases h2:40<p.ay[i].Name.length
      · rw [dT h2,dT (show (40:Int)<(p.ay[i].Name.length:Int) by omega)]
      · rw [dF h2,dF (show ¬ (40:Int)<(p.ay[i].Name.length:Int) by omega)]
  have hm2:nG N p (p.ay.length:Int)=some (.inr (.inl ())):=by
    unfold nG
    rw [bP,dF (by omega),qg]
  have e1:=HY (N:=N) (fun i=>bif (p.bU.drop i).any (fun y=>decide (40<y.Next.length)||decide (40<y.Name.length)) then .inr true else .inl ()) (f:=nD N p) (n:=p.bU.length) (fun i hi=>by
    rw [hs i hi]
    simp only [drop_at hi,List.any_cons]
    cases (decide (40<p.bU[i].Next.length)||decide (40<p.bU[i].Name.length))
    · exact .inl ⟨rfl,by simp⟩
    · exact .inr rfl) (by rw [hs2];simp) (by omega)
  have e2:=HY (N:=N) (fun i=>bif (p.ay.drop i).any (fun y=>decide (20<y.Locks.length)||decide (40<y.Name.length)) then .inr true else .inl ()) (f:=nG N p) (n:=p.ay.length) (fun i hi=>by
    rw [hm i hi]
    simp only [drop_at hi,List.any_cons]
    cases (decide (20<p.ay[i].Locks.length)||decide (40<p.ay[i].Name.length))
    · exact .inl ⟨rfl,by simp⟩
    · exact .inr rfl) (by rw [hm2];simp) (by omega)
  rw [e1,e2]
  simp only [List.drop_zero,bS]
  cases ha:p.bU.any (fun y=>decide (40<y.Next.length)||decide (40<y.Name.length)) with
  | true=>exact .inl rfl
  | false =>
    cases hc:p.ay.any (fun y=>decide (20<y.Locks.length)||decide (40<y.Name.length)) with
    | true=>exact .inl rfl
    | false =>
      have ha':∀ y ∈ p.bU,y.Next.length≤40∧y.Name.length≤40:=fun y hy=>by
        have:=List.any_eq_false.1 ha y hy
        simp only [Bool.or_eq_true,decide_eq_true_eq,not_or] at this
        omega
      have hc':∀ y ∈ p.ay,y.Locks.length≤20∧y.Name.length≤40:=fun y hy=>by
        have:=List.any_eq_false.1 hc y hy
        simp only [Bool.or_eq_true,decide_eq_true_eq,not_or] at this
        omega
      exact .inr ⟨rfl,⟨by omega,by omega,by omega,fun y hy=>by have:=(ha' y hy).1;omega,fun y hy=>by have:=(hc' y hy).1;omega⟩,by omega,by omega,by omega,ha',hc'⟩
end Go.KB
