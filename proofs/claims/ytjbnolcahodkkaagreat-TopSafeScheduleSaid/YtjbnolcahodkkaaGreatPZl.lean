/- Plain laws of chapter 7: loops, names, sets of names. Plain laws of chapter 7: searches, names, places of spaces and permits. Plain laws of chapter 7: CheckPlan. Plain laws of chapter 7: which plans are looked at. No condition. -/
import Derived.Test.YtjbnolcahodkkaaGreatPZa
import Derived.Test.YtjbnolcahodkkaaGreatGPure
namespace Go.KB
set_option linter.unusedVariables false
theorem w64i {n:Int} (h0:-9223372036854775808≤n) (h1:n≤9223372036854775807):IntKind.i64.wrap n=n:=MN h0 h1
theorem dT {p:Prop} [Decidable p] (h:p):decide p=true:=decide_eq_true h
theorem dF {p:Prop} [Decidable p] (h:¬p):decide p=false:=decide_eq_false h
def jb (e:Nat→Int):Nat→Nat→Int
 | 0,_=>0
 | k+1,i=>if e i=0 then jb e k (i+1) else e i
theorem Em {e:Nat→Int}:∀ {k i:Nat},jb e k i=0→∀ j,i≤j→j<i+k→e j=0:=by
 intro k
 induction k with
 | zero=>intro i _ j h1 h2;omega
 | succ k ih =>
  intro i h j h1 h2
  simp only [jb] at h
  split at h
  ·rename_i h0
   rcases Nat.eq_or_lt_of_le h1 with rfl | h1
   ·exact h0
   ·exact ih h j h1 (by omega)
  ·rename_i h0;exact absurd h h0
def Dk {O:Type} (fin:O) (err:Int→O) (z:Int):O:=if z=0 then fin else err z
theorem Qo {e:Nat→Int} {k i:Nat} (h:e i=0):jb e (k+1) i=jb e k (i+1):=by simp [jb,h]
theorem Qp {e:Nat→Int} {k i:Nat} (h:e i≠0):jb e (k+1) i=e i:=by simp [jb,h]
theorem LZ {O:Type} {n N:Nat} {f:Int→Option (Int ⊕ O)} {e:Nat→Int} {fin:O} {err:Int→O} (hf:∀ i:Nat,i<n→(∀ j,j<i→e j=0)→f (i:Int)=if e i=0 then some (.inl ((i+1:Nat):Int)) else some (.inr (err (e i)))) (he:(∀ j,j<n→e j=0)→f (n:Int)=some (.inr fin)) (hN:n<N) :
  dh f N 0=some (Dk fin err (jb e n 0)):=by
 have key:∀ k i,i+k=n→(∀ j,j<i→e j=0)→∀ M,k<M→dh f M (i:Int)=some (Dk fin err (jb e k i)):=by
  intro k
  induction k with
  | zero =>
   intro i hi hz M hM
   obtain ⟨M,rfl⟩:∃ m,M=m+1:=⟨M - 1,by omega⟩
   have:i=n:=by omega
   subst this
   simp only [dh,he hz,jb];rfl
  | succ k ih =>
   intro i hi hz M hM
   obtain ⟨M,rfl⟩:∃ m,M=m+1:=⟨M - 1,by omega⟩
   simp only [dh,hf i (by omega) hz]
   by_cases h0:e i=0
   ·rw [if_pos h0,Qo h0]
    exact ih (i+1) (by omega) (fun j hj=>by
     rcases Nat.lt_succ_iff_lt_or_eq.1 hj with h | rfl
     ·exact hz j h
     ·exact h0) M (by omega)
   ·rw [if_neg h0,Qp h0]
    unfold Dk
    rw [if_neg h0]
 exact key n 0 (by omega) (fun j hj=>absurd hj (Nat.not_lt_zero _)) N (by omega)
theorem PV {S O:Type} {n N:Nat} {f:S→Option (S ⊕ O)} {e:Nat→Int} {fin:O} {err:Int→O} (g:Nat→S) (hf:∀ i:Nat,i<n→(∀ j,j<i→e j=0)→f (g i)=if e i=0 then some (.inl (g (i+1))) else some (.inr (err (e i)))) (he:(∀ j,j<n→e j=0)→f (g n)=some (.inr fin)) (hN:n<N) :
  dh f N (g 0)=some (Dk fin err (jb e n 0)):=by
 have key:∀ k i,i+k=n→(∀ j,j<i→e j=0)→∀ M,k<M→dh f M (g i)=some (Dk fin err (jb e k i)):=by
  intro k
  induction k with
  | zero =>
   intro i hi hz M hM
   obtain ⟨M,rfl⟩:∃ m,M=m+1:=⟨M - 1,by omega⟩
   have:i=n:=by omega
   subst this
   simp only [dh,he hz,jb];rfl
  | succ k ih =>
   intro i hi hz M hM
   obtain ⟨M,rfl⟩:∃ m,M=m+1:=⟨M - 1,by omega⟩
   simp only [dh,hf i (by omega) hz]
   by_cases h0:e i=0
   ·rw [if_pos h0,Qo h0]
    exact ih (i+1) (by omega) (fun j hj=>by
     rcases Nat.lt_succ_iff_lt_or_eq.1 hj with h | rfl
     ·exact hz j h
     ·exact h0) M (by omega)
   ·rw [if_neg h0,Qp h0]
    unfold Dk
    rw [if_neg h0]
 exact key n 0 (by omega) (fun j hj=>absurd hj (Nat.not_lt_zero _)) N (by omega)
theorem uX {α:Type} [Inhabited α] {l:List α} {i:Nat} (h:i<l.length):l[i]! = l[i]:=by simp [h]
theorem rH {α:Type} [Inhabited α] {l:List α} {i:Nat} (h:i<l.length):idx l (i:Int)=some l[i]!:=by rw [jm h,uX h]
theorem OE {α β:Type} {f:(List β×Int)→Option ((List β×Int) ⊕ List β)} {N:Nat} (l:List α) (g:α→β) (hf:∀ (i:Nat) (hi:i<l.length) (acc:List β),acc.length=i→f (acc,(i:Int))=some (.inl (acc ++ [g l[i]],((i+1:Nat):Int))))
  (he:∀ acc,f (acc,(l.length:Int))=some (.inr acc)) (hN:l.length<N):dh f N ([],0)=some (l.map g):=by
 have:=Zi (f:=f) l.length (fun i=>(l.take i).map g) (l.map g) (fun i hi=>by
  rw [hf i hi _ (by rw [List.length_map,List.length_take];omega),List.take_succ_eq_append_getElem hi,List.map_append];rfl) (by rw [List.take_length];exact he _) N hN
 simpa using this
theorem TS {α:Type} {b:Bool} {x y:α}:(bif b then some x else some y)=some (bif b then x else y):=by cases b <;> rfl
theorem Jo {α β:Type} [DecidableEq α] (z:β) (x k:α) (y:β):∀ m:List (α×β),jD z (tX m x y) k=if k=x then y else jD z m k
 | []=>by
  by_cases h:k=x
  ·subst h;simp [jD,tX]
  ·simp [jD,tX,h]
 | p :: r=>by
  by_cases hp:x=p.1
  ·subst hp
   by_cases h:k=p.1
   ·subst h;simp [jD,tX]
   ·simp [jD,tX,h]
  ·by_cases h : k = p.1
   ·subst h;simp [jD,tX,hp,Ne.symm hp]
   ·simp [jD,tX,hp,h,Jo z x k y r]
theorem rD (a b:Str):Bf .eql a b=decide (a=b):=by
 unfold Bf
 rw [Bool.eq_iff_iff]
 simp
theorem OT (a b:Str):Bf .neq a b = !decide (a=b):=by
 rw [← rD];rfl
def dup (nm:Nat→Str):Nat→Str→Bool
 | 0,_=>false
 | i+1,x=>decide (x=nm i)||dup nm i x
def seen (nm:Nat→Str):Nat→List (Str×Bool)
 | 0=>[]
 | i+1=>tX (seen nm i) (nm i) true
theorem OX (nm:Nat→Str) (x:Str):∀ i,jD false (seen nm i) x=dup nm i x
 | 0=>rfl
 | i+1=>by
  simp only [seen,dup,Jo,OX nm x i]
  by_cases h:x=nm i <;> simp [h]
theorem OI (nm:Nat→Str) (x:Str):∀ i,dup nm i x=true↔∃ j,j<i∧nm j=x
 | 0=>by simp [dup]
 | i+1=>by
  simp only [dup,Bool.or_eq_true,decide_eq_true_eq,OI nm x i]
  constructor
  ·rintro (h | ⟨j,h1,h2⟩)
   ·exact ⟨i,by omega,h.symm⟩
   ·exact ⟨j,by omega,h2⟩
  ·rintro ⟨j,h1,h2⟩
   by_cases hj:j=i
   ·subst hj;exact .inl h2.symm
   ·exact .inr ⟨j,by omega,h2⟩
def same (nm:Nat→Str) (x:Str) (j:Nat):Int:=if nm j=x then 5 else 0
def jVy (x0:Str) (s1:Int):Option (Int ⊕ (Unit ⊕ Bool)) :=
 bif (aC .lss s1 (List.length x0:Int)) then ((idx x0 s1).bind fun v2=>bif ((!(((aC .geq ((UInt8.toNat v2:Nat):Int) 97)&&(aC .leq ((UInt8.toNat v2:Nat):Int) 122))||((aC .geq ((UInt8.toNat v2:Nat):Int) 65)&&(aC .leq ((UInt8.toNat v2:Nat):Int) 90))))&&((aC .eql s1 0)||((aC .neq ((UInt8.toNat v2:Nat):Int) 45)&&((aC .lss ((UInt8.toNat v2:Nat):Int) 48)||(aC .gtr ((UInt8.toNat v2:Nat):Int) 57))))) then (some (.inr (Sum.inr false))) else (some (.inl (IntKind.i64.wrap (s1+1))))) else (some (.inr (Sum.inl ())))
def nameF (N:Nat) (x0:Str):Option (Bool) :=
 bif ((aC .lss (List.length x0:Int) 1)||(aC .gtr (List.length x0:Int) 12)) then (some false) else ((dh (jVy x0) N 0).bind fun o5=>Sum.elim (fun l7=>some true) (fun r8=>some r8) o5)
theorem jZf {N:Nat} {s:Str} (hN:13≤N):nameF N s=some (lD s):=by
  unfold nameF
  by_cases hlen:s.length<1∨12<s.length
  · have hc:(aC .lss (s.length:Int) 1||aC .gtr (s.length:Int) 12)=true:=by
      simp;omega
    rw [hc,kS]
    congr 1
    unfold lD
    rcases hlen with h | h
    · have : s = [] := List.eq_nil_of_length_eq_zero (by omega)
      subst this;rfl
    · cases s with
      | nil=>rfl
      | cons c r=>simp at h;simp;intro h';omega
  · have hc:(aC .lss (s.length:Int) 1||aC .gtr (s.length:Int) 12)=false:=by
      rw [Bool.or_eq_false_iff];simp;omega
    rw [hc,kG]
    cases s with
    | nil=>simp at hlen
    | cons c r =>
      have hr:r.length<12:=by simp at hlen;omega
      have hbad:∀ i (hi:i<(c :: r).length),((!(((aC .geq ((UInt8.toNat (c :: r)[i]:Nat):Int) 97)&&(aC .leq ((UInt8.toNat (c :: r)[i]:Nat):Int) 122))||((aC .geq ((UInt8.toNat (c :: r)[i]:Nat):Int) 65)&&(aC .leq ((UInt8.toNat (c :: r)[i]:Nat):Int) 90))))&&((aC .eql (i:Int) 0)||((aC .neq ((UInt8.toNat (c :: r)[i]:Nat):Int) 45)&&((aC .lss ((UInt8.toNat (c :: r)[i]:Nat):Int) 48)||(aC .gtr ((UInt8.toNat (c :: r)[i]:Nat):Int) 57))))) =
          !(if i=0 then CO (c :: r)[i] else zu (c :: r)[i]):=by
        intro i hi
        split
        · rename_i h0;subst h0
          simp only [yX,Int.natCast_zero,decide_true,Bool.true_or,Bool.and_true]
          rfl
        · rename_i h0
          rw [yX,show decide ((i:Int)=0)=false by rw [decide_eq_false_iff_not];omega,Bool.false_or]
          unfold zu CO chr
          simp only [wP,bM,rP,yV,yA]
          generalize ((UInt8.toNat (c :: r)[i]:Nat):Int)=x
          rw [Bool.eq_iff_iff]
          simp only [Bool.and_eq_true,Bool.or_eq_true,Bool.not_eq_true',Bool.or_eq_false_iff,Bool.and_eq_false_iff,decide_eq_true_eq,decide_eq_false_iff_not]
          omega
      rw [Ib (c :: r).length (if lD (c :: r) then .inl () else .inr false) (fun i=>∀ j (h:j<(c :: r).length),j<i→(if j=0 then CO (c :: r)[j] else zu (c :: r)[j])=true) ?_ ?_ (fun j _ h=>absurd h (Nat.not_lt_zero _)) N (by simp;omega)]
      · cases lD (c :: r) <;> rfl
      · intro i hi hp
        unfold jVy
        rw [bM,show decide ((i:Int)<((c :: r).length:Int))=true by rw [decide_eq_true_eq];omega,kS,jm hi,bS,hbad i hi,oJ (show i<9223372036854775807 by simp at hi;omega)]
        cases hg:(if i=0 then CO (c :: r)[i] else zu (c :: r)[i]) with
        | true =>
          refine .inl ⟨rfl,fun j hj hji=>?_⟩
          rcases Nat.lt_succ_iff_lt_or_eq.1 hji with h | rfl
          · exact hp j hj h
          · exact hg
        | false =>
          refine .inr ?_
          have:lD (c :: r)=false:=by
            rw [Bool.eq_false_iff]
            intro h
            simp only [lD,Bool.and_eq_true,decide_eq_true_eq] at h
            obtain ⟨⟨_,h1⟩,h2⟩:=h
            rw [List.all_eq_true] at h2
            cases i with
            | zero=>simp [h1] at hg
            | succ i =>
              simp at hg
              have:=h2 _ (List.getElem_mem (by simpa using hi:i<r.length))
              rw [this] at hg;cases hg
          rw [this];rfl
      · intro hp
        unfold jVy
        rw [bM,show decide ((((c :: r).length:Nat):Int)<((c :: r).length:Int))=false by simp,kG]
        have:lD (c :: r)=true:=by
          simp only [lD,Bool.and_eq_true,decide_eq_true_eq]
          refine ⟨⟨hr,(by have h:=hp 0 (by simp) (by simp);rw [if_pos rfl] at h;exact h)⟩,?_⟩
          rw [List.all_eq_true]
          intro x hx
          obtain ⟨j,hj,rfl⟩:=List.getElem_of_mem hx
          have:=hp (j+1) (by simp;omega) (by simp;omega)
          simpa using this
        rw [this];rfl
end Go.KB
namespace Go.KB
set_option linter.unusedVariables false
theorem Zj {O:Type} {n N:Nat} {f:Int→Option (Int ⊕ O)} (R:Nat→O) (hf:∀ i:Nat,i<n→(f (i:Int)=some (.inl ((i+1:Nat):Int))∧R i=R (i+1))∨f (i:Int)=some (.inr (R i))) (he:f (n:Int)=some (.inr (R n))) (hN:n<N):dh f N 0=some (R 0):=by
 have key:∀ k i,i+k=n→∀ M,k<M→dh f M (i:Int)=some (R i):=by
  intro k
  induction k with
  | zero =>
   intro i hi M hM
   obtain ⟨M,rfl⟩:∃ m,M=m+1:=⟨M - 1,by omega⟩
   have:i=n:=by omega
   subst this
   simp only [dh,he]
  | succ k ih =>
   intro i hi M hM
   obtain ⟨M,rfl⟩:∃ m,M=m+1:=⟨M - 1,by omega⟩
   rcases hf i (by omega) with ⟨h1,h2⟩ | h1
   ·simp only [dh,h1];rw [h2];exact ih (i+1) (by omega) M (by omega)
   ·simp only [dh,h1]
 exact key n 0 (by omega) N (by omega)
theorem drop_at {α:Type} {l:List α} {i:Nat} (h:i<l.length):l.drop i=l[i] :: l.drop (i+1):=List.drop_eq_getElem_cons h
theorem jVu {α:Type} {l:List α} {N:Nat} {f:Int→Option (Int ⊕ (Unit ⊕ Bool))} {g:α→Bool} (hf:∀ (i:Nat) (h:i<l.length),f (i:Int)=bif g l[i] then some (.inl ((i+1:Nat):Int)) else some (.inr (.inr false))) (he:f (l.length:Int)=some (.inr (.inl ()))) (hN:l.length<N) :
  ((dh f N 0).bind fun o=>Sum.elim (fun _=>some true) (fun r=>some r) o)=some (l.all g):=by
 rw [Zj (fun i=>bif (l.drop i).all g then .inl () else .inr false) (fun i hi=>?_) (by simp [he]) hN]
 ·simp only [List.drop_zero,bS];cases l.all g <;> rfl
 ·rw [hf i hi]
  simp only [drop_at hi,List.all_cons]
  cases g l[i]
  ·exact .inr rfl
  ·exact .inl ⟨rfl,by simp⟩
def Ku {α:Type} (g:α→Bool) (l:List α):Int:=if l.findIdx g<l.length then (l.findIdx g:Int) else -1
theorem xW {α:Type} {l:List α} {N:Nat} {f:Int→Option (Int ⊕ (Unit ⊕ Int))} {g:α→Bool} (hf:∀ (i:Nat) (h:i<l.length),f (i:Int)=bif g l[i] then some (.inr (.inr (i:Int))) else some (.inl ((i+1:Nat):Int))) (he:f (l.length:Int)=some (.inr (.inl ()))) (hN:l.length<N) :
  ((dh f N 0).bind fun o=>Sum.elim (fun _=>some (-1:Int)) (fun r=>some r) o)=some (Ku g l):=by
 rw [Zj (fun i=>if (l.drop i).findIdx g<(l.drop i).length then .inr (((i+(l.drop i).findIdx g:Nat)):Int) else .inl ()) (fun i hi=>?_) (by simp [he]) hN]
 ·simp only [List.drop_zero,Nat.zero_add,bS,Ku];split <;> rfl
 ·rw [hf i hi]
  simp only [drop_at hi,List.findIdx_cons]
  cases g l[i]
  ·refine .inl ⟨rfl,?_⟩
   simp only [kG,List.length_cons,Nat.add_lt_add_iff_right]
   split
   ·congr 2;omega
   ·rfl
  ·refine .inr ?_
   simp only [kS,List.length_cons,Nat.zero_lt_succ,if_true,Nat.add_zero]
theorem J3 {α:Type} {g:α→Bool} {l:List α} (h:l.findIdx g<l.length):Ku g l=(l.findIdx g:Int):=if_pos h
theorem Nb {α:Type} {g:α→Bool} {l:List α} (h:¬ l.findIdx g<l.length):Ku g l = -1:=if_neg h
theorem PG {α:Type} {g:α→Bool} {l:List α}:decide (Ku g l<0) = !l.any g:=by
 have:l.any g=true↔l.findIdx g<l.length:=by
  rw [List.any_eq_true]
  exact List.findIdx_lt_length.symm
 by_cases h:l.findIdx g<l.length
 ·rw [J3 h,this.2 h];simp
 ·rw [Nb h,Bool.eq_false_iff.2 (fun x=>h (this.1 x))];rfl
theorem GX {N:Nat} {s:Str} (hN:13≤N):su N s=some (lD s):=by
  unfold su
  by_cases hlen:s.length<1∨12<s.length
  · have hc : (aC .lss (s.length : Int) 1 || aC .gtr (s.length : Int) 12) = true := by simp; omega
    rw [hc]
    simp only [Bool.not_true,kG,bS,Bool.true_or,kS]
    congr 1
    unfold lD
    rcases hlen with h | h
    · have : s = [] := List.eq_nil_of_length_eq_zero (by omega)
      subst this;rfl
    · cases s with
      | nil=>rfl
      | cons c r=>simp at h;simp;intro h';omega
  · have hc : (aC .lss (s.length : Int) 1 || aC .gtr (s.length : Int) 12) = false := by rw [Bool.or_eq_false_iff]; simp; omega
    rw [hc]
    cases s with
    | nil=>simp at hlen
    | cons c r =>
      have hr:r.length<12:=by simp at hlen;omega
      have hl:∀ x:UInt8,AA N ((UInt8.toNat x:Nat):Int)=some (CO x):=fun x=>rfl
      have h0:idx (c :: r) 0=some c:=by have:=jm (xs:=c :: r) (i:=0) (by simp);simpa using this
      simp only [Bool.not_false,kS,h0,bS,hl,Bool.false_or]
      cases hc:CO c with
      | false=>simp [lD,hc]
      | true =>
        simp only [Bool.not_true,kG]
        have h1:∀ (i:Nat) (hi:i<(c :: r).length),vJ N (c :: r) (i:Int)=bif zu (c :: r)[i] then some (.inl ((i+1:Nat):Int)) else some (.inr (.inr false)):=by
          intro i hi
          unfold vJ
          rw [bM,dT (by omega),kS,jm hi,bS,hl,bS,oJ (show i<9223372036854775807 by simp at hi;omega)]
          have:((!CO (c :: r)[i]&&aC .neq ((UInt8.toNat (c :: r)[i]:Nat):Int) 45)&&(aC .lss ((UInt8.toNat (c :: r)[i]:Nat):Int) 48||aC .gtr ((UInt8.toNat (c :: r)[i]:Nat):Int) 57)) = !zu (c :: r)[i]:=by
            unfold zu chr
            cases CO (c :: r)[i]
            · simp only [Bool.not_false,Bool.true_and,Bool.false_or,wP,bM,rP]
              generalize ((UInt8.toNat (c :: r)[i]:Nat):Int)=x
              rw [Bool.eq_iff_iff]
              simp only [Bool.and_eq_true,Bool.or_eq_true,Bool.not_eq_true',Bool.or_eq_false_iff,Bool.and_eq_false_iff,decide_eq_true_eq,decide_eq_false_iff_not]
              omega
            · simp
          rw [this]
          cases zu (c :: r)[i] <;> rfl
        have h2:vJ N (c :: r) ((c :: r).length:Int)=some (.inr (.inl ())):=by
          unfold vJ
          rw [bM,dF (by omega),kG]
        rw [jVu h1 h2 (by simp;omega)]
        simp [lD,hc,zu,hr]
instance:Inhabited dK:=⟨⟨[],false,[]⟩⟩
instance:Inhabited aQ:=⟨⟨[],0,[],0,0,[]⟩⟩
instance:Inhabited dH:=⟨⟨0,0,0⟩⟩
def isS (s:Str) (y:dK):Bool:=decide (y.Name=s)
def isP (s:Str) (y:aQ):Bool:=decide (y.Name=s)
theorem jQw {N:Nat} {l:List dK} {f:dK→Option Bool} {g:dK→Bool} (hf:∀ y,f y=some (g y)) (hl:l.length<1000000) (hN:1000000≤N):kV N l f=some (Ku g l):=by
 unfold kV
 refine xW (fun i hi=>?_) ?_ (by omega)
 ·unfold jZ
  rw [bM,dT (by omega),kS,jm hi,bS,hf,bS,oJ (by omega)]
 ·unfold jZ
  rw [bM,dF (by omega),kG]
theorem UD {N:Nat} {l:List aQ} {f:aQ→Option Bool} {g:aQ→Bool} (hf:∀ y,f y=some (g y)) (hl:l.length<1000000) (hN:1000000≤N):jl N l f=some (Ku g l):=by
 unfold jl
 refine xW (fun i hi=>?_) ?_ (by omega)
 ·unfold jM
  rw [bM,dT (by omega),kS,jm hi,bS,hf,bS,oJ (by omega)]
 ·unfold jM
  rw [bM,dF (by omega),kG]
def D6 {α:Type} (z:α) (g:α→Bool) (l:List α):α×Bool:=match l.find? g with | some y=>(y,true) | none=>(z,false)
theorem ZY {α:Type} {g:α→Bool}:∀ {l:List α},(l.findIdx g<l.length∧∃ h:l.findIdx g<l.length,l.find? g=some l[l.findIdx g])∨(¬ l.findIdx g<l.length∧l.find? g=none):=by
 intro l
 by_cases h:l.findIdx g<l.length
 ·refine .inl ⟨h,h,?_⟩
  exact (List.find?_eq_getElem?_findIdx ..).trans (List.getElem?_eq_getElem h)
 ·refine .inr ⟨h,?_⟩
  rw [List.find?_eq_getElem?_findIdx,List.getElem?_eq_none (by omega)]
theorem Dc {N:Nat} {p:ax} {s:Str} (hl:p.bP.length<1000000) (hN:1000000≤N):jX N p s=some (D6 ⟨[],false,[]⟩ (isS s) p.bP):=by
 unfold jX
 rw [jQw (g:=isS s) (fun y=>by unfold yg;rw [rD];rfl) hl hN,bS,bM]
 unfold D6
 rcases ZY (g:=isS s) (l:=p.bP) with ⟨_,h,h2⟩ | ⟨h,h2⟩
 ·rw [h2,J3 h,dF (by omega),kG,jm h];rfl
 ·rw [h2,Nb h];rfl
theorem EN {N:Nat} {p:ax} {s:Str} (hl:p.aO.length<1000000) (hN:1000000≤N):oh N p s=some (D6 ⟨[],0,[],0,0,[]⟩ (isP s) p.aO):=by
 unfold oh
 rw [UD (g:=isP s) (fun y=>by unfold xh;rw [rD];rfl) hl hN,bS,bM]
 unfold D6
 rcases ZY (g:=isP s) (l:=p.aO) with ⟨_,h,h2⟩ | ⟨h,h2⟩
 ·rw [h2,J3 h,dF (by omega),kG,jm h];rfl
 ·rw [h2,Nb h];rfl
theorem Jm {α:Type} {z:α} {g:α→Bool} {l:List α}:(D6 z g l).2=l.any g:=by
 unfold D6
 cases h:l.find? g with
 | none=>simp only [];rw [eq_comm,Bool.eq_false_iff];intro hx;rw [List.any_eq_true] at hx;obtain ⟨x,hx,hg⟩:=hx;exact absurd hg (by simpa using List.find?_eq_none.1 h x hx)
 | some y=>simp only [];rw [eq_comm,List.any_eq_true];exact ⟨y,List.mem_of_find?_eq_some h,List.find?_some h⟩
end Go.KB
namespace Go.KB
set_option linter.unusedVariables false
def PU (a b:Int):Int:=if a=0 then b else a
def Ei (k:Int):Bool:=decide (0≤k)&&decide (k≤5)
def TA (p:ax) (i:Nat):Str:=p.bP[i]!.Name
def VA (p:ax) (i:Nat):Str:=p.aO[i]!.Name
def DX (p:ax) (s:Str):Bool:=p.bP.any (isS s)
def pF (p:ax) (s:Str):Bool:=p.aO.any (isP s)
def xK (p:ax) (s:Str):aQ:=(D6 ⟨[],0,[],0,0,[]⟩ (isP s) p.aO).1
def Dj (p:ax) (s:Str):dK:=(D6 ⟨[],false,[]⟩ (isS s) p.bP).1
def eSp (p:ax) (i:Nat):Int:=if lD (TA p i)=false then 4 else if dup (TA p) i (TA p i)=true then 5 else if 30<p.bP[i]!.Next.length then 8 else 0
def eNx (p:ax) (y:dK) (j:Nat):Int:=if DX p y.Next[j]! = false then 6 else if y.Next[j]! = y.Name then 3 else 0
def Vz (p:ax) (i:Nat):Int:=jb (eNx p p.bP[i]!) p.bP[i]!.Next.length 0
def eEx (p:ax) (i:Nat):Int:=if Ei p.aW[i]!.A=false∨Ei p.aW[i]!.B=false∨p.aW[i]!.Reach<0∨2<p.aW[i]!.Reach then 2 else 0
def ePm (p:ax) (i:Nat):Int:=if lD (VA p i)=false then 4 else if dup (VA p) i (VA p i)=true then 5 else
 if Ei p.aO[i]!.Kind=false∨p.aO[i]!.From<0∨p.aO[i]!.To≤p.aO[i]!.From∨1000000<p.aO[i]!.To then 2 else if DX p p.aO[i]!.Space=false then 6 else if 10<p.aO[i]!.Locks.length then 8 else 0
def eLk (p:ax) (y:aQ) (j:Nat):Int:=if pF p y.Locks[j]! = false then 6 else if (xK p y.Locks[j]!).Kind≠5∨y.Kind=5 then 3 else 0
def Y3 (p:ax) (i:Nat):Int:=jb (eLk p p.aO[i]!) p.aO[i]!.Locks.length 0
def vP (p:ax):Int:=if 30<p.bP.length∨30<p.aW.length∨20<p.aO.length then 8 else if p.gY<1∨10000<p.gY then 2 else
 PU (PU (jb (eSp p) p.bP.length 0) (jb (Vz p) p.bP.length 0)) (PU (jb (eEx p) p.aW.length 0) (PU (jb (ePm p) p.aO.length 0) (jb (Y3 p) p.aO.length 0)))
structure NV (p:ax):Prop where
 s:p.bP.length<1000
 x:p.aW.length<1000
 m:p.aO.length<1000
 n:∀ y ∈ p.bP,y.Next.length<1000
 l:∀ y ∈ p.aO,y.Locks.length<1000
theorem DT {α:Type} [Inhabited α] {l:List α} {i:Nat} (h:i<l.length):l[i]! ∈ l:=by rw [uX h];exact List.getElem_mem h
theorem GY {A:Type} {fin:A} {E:Int} {K:A→Option Int}:((some (Dk (Sum.inl fin) (fun e=>Sum.inr e) E):Option (A ⊕ Int)).bind fun o=>Sum.elim (fun l=>K l) (fun r=>some r) o)=if E=0 then K fin else some E:=by
 unfold Dk
 by_cases h:E=0
 ·rw [if_pos h,if_pos h];rfl
 ·rw [if_neg h,if_neg h];rfl
theorem dup_ix {α:Type} [Inhabited α] {nm:α→Str} {x:Str} {l:List α} {i:Nat} (hi:i≤l.length):dup (fun j=>nm l[j]!) i x=(decide (0≤Ku (fun y=>decide (nm y=x)) l)&&decide (Ku (fun y=>decide (nm y=x)) l<(i:Int))):=by
 rw [Bool.eq_iff_iff,OI,Bool.and_eq_true,decide_eq_true_eq,decide_eq_true_eq]
 constructor
 ·rintro ⟨j,hj,hx⟩
  have hjl:j<l.length:=by omega
  rw [uX hjl] at hx
  have hle:l.findIdx (fun y=>decide (nm y=x))≤j:=by
   rcases Nat.lt_or_ge j (l.findIdx (fun y=>decide (nm y=x))) with h | h
   ·exact absurd (List.not_of_lt_findIdx h) (by simp [hx])
   ·exact h
  rw [J3 (by omega)]
  omega
 ·rintro ⟨h1,h2⟩
  by_cases h:l.findIdx (fun y=>decide (nm y=x))<l.length
  ·rw [J3 h] at h2
   refine ⟨l.findIdx (fun y=>decide (nm y=x)),by omega,?_⟩
   show nm l[l.findIdx (fun y=>decide (nm y=x))]! = x
   rw [uX h]
   have:=List.findIdx_getElem (xs:=l) (p:=fun y=>decide (nm y=x)) (w:=h)
   simpa using this
  ·rw [Nb h] at h1;omega
theorem jWc {α:Type} [Inhabited α] {nm:α→Str} {x:Str} {l:List α}:dup (fun j=>nm l[j]!) l.length x=l.any (fun y=>decide (nm y=x)):=by
 rw [dup_ix (Nat.le_refl _)]
 have:=PG (g:=fun y=>decide (nm y=x)) (l:=l)
 by_cases h:l.findIdx (fun y=>decide (nm y=x))<l.length
 ·rw [J3 h] at this ⊢
  rw [dF (by omega)] at this
  rw [dT (by omega),dT (by omega)]
  cases hx:l.any (fun y=>decide (nm y=x)) with
  | true=>rfl
  | false=>rw [hx] at this;cases this
 ·rw [Nb h] at this ⊢
  cases hx:l.any (fun y=>decide (nm y=x)) with
  | false=>rfl
  | true=>rw [hx] at this;cases this
theorem Z4 {N:Nat} {k:Int}:AX N k=some (Ei k):=rfl
section
variable {N:Nat} {p:ax} (hp:NV p) (hN:1000000≤N)
include hp hN
theorem cs3:dh (qo N p) N (([]:List (Str×Bool)),0)=some (Dk (.inl (seen (TA p) p.bP.length)) (fun e=>.inr e) (jb (eSp p) p.bP.length 0)):=by
 have hs:=hp.s
 refine PV (fun i=>(seen (TA p) i,(i:Int))) (fun i hi _=>?_) (fun _=>?_) (by omega)
 ·unfold qo eSp
  simp only []
  rw [bM,dT (by omega),kS,rH hi,bS,GX (by omega),bS,OX,oJ (by omega),rP]
  show (bif !lD (TA p i) then _ else bif dup (TA p) i (TA p i) then _ else _)=_
  cases lD (TA p i) with
  | false=>rfl
  | true =>
   cases dup (TA p) i (TA p i) with
   | true=>rfl
   | false =>
    by_cases h:30<p.bP[i]!.Next.length
    ·rw [dT (show (30:Int)<(p.bP[i]!.Next.length:Int) by omega),if_pos h];rfl
    ·rw [dF (show ¬ (30:Int)<(p.bP[i]!.Next.length:Int) by omega),if_neg h];rfl
 ·unfold qo
  simp only []
  rw [bM,dF (by omega),kG]
theorem cs1 {y:dK} (hy:y ∈ p.bP):dh (qw N (seen (TA p) p.bP.length) y) N 0=some (Dk (.inl ()) (fun e=>.inr e) (jb (eNx p y) y.Next.length 0)):=by
 have hl:=hp.n y hy
 refine LZ (fun i hi _=>?_) (fun _=>?_) (by omega)
 ·unfold qw eNx
  rw [bM,dT (by omega),kS,rH hi,bS,OX,show dup (TA p) p.bP.length y.Next[i]! = DX p y.Next[i]! from jWc,oJ (by omega),rD]
  cases DX p y.Next[i]! with
  | false=>rfl
  | true =>
   by_cases h:y.Next[i]! = y.Name
   ·rw [dT h,if_pos h];rfl
   ·rw [dF h,if_neg h];rfl
 ·unfold qw
  rw [bM,dF (by omega),kG]
theorem cs2:dh (qp N p (seen (TA p) p.bP.length)) N 0=some (Dk (.inl ()) (fun e=>.inr e) (jb (Vz p) p.bP.length 0)):=by
 have hs:=hp.s
 refine LZ (fun i hi _=>?_) (fun _=>?_) (by omega)
 ·unfold qp
  rw [bM,dT (by omega),kS,rH hi,bS,cs1 hp hN (DT hi),oJ (by omega),bS]
  show Sum.elim _ _ (Dk _ _ (Vz p i))=_
  unfold Dk
  by_cases h:Vz p i=0
  ·rw [if_pos h,if_pos h];rfl
  ·rw [if_neg h,if_neg h];rfl
 ·unfold qp
  rw [bM,dF (by omega),kG]
theorem Tn:wu N p=some (PU (jb (eSp p) p.bP.length 0) (jb (Vz p) p.bP.length 0)):=by
 unfold wu
 rw [cs3 hp hN,GY,cs2 hp hN,GY]
 unfold PU
 split
 ·split
  ·rename_i h;rw [h]
  ·rfl
 ·rfl
omit hp hN in
theorem ex_eq {a b:Bool} {r:Int}:((((!a)||(!(bif !(!a) then b else false)))||(aC .lss r 0))||(aC .gtr r 2))=decide (a=false∨b=false∨r<0∨2<r):=by
 rw [Bool.eq_iff_iff,bM,rP]
 cases a <;> cases b <;> simp
omit hN in
theorem exL (hN2:p.aW.length<N):dh (rU N p) N 0=some (Dk (.inl ()) (fun e=>.inr e) (jb (eEx p) p.aW.length 0)):=by
 have hs:=hp.x
 refine LZ (fun i hi _=>?_) (fun _=>?_) hN2
 ·unfold rU eEx
  simp only [Z4]
  rw [bM,dT (by omega),kS,rH hi,bS,bS,TS,bS,oJ (by omega),ex_eq]
  by_cases h:Ei p.aW[i]!.A=false∨Ei p.aW[i]!.B=false∨p.aW[i]!.Reach<0∨2<p.aW[i]!.Reach
  ·rw [dT h,if_pos h];rfl
  ·rw [dF h,if_neg h];rfl
 ·unfold rU
  rw [bM,dF (by omega),kG]
omit hp hN in
theorem rg_eq {a:Bool} {x y:Int}:((((!a)||(aC .lss x 0))||(aC .geq x y))||(aC .gtr y 1000000))=decide (a=false∨x<0∨y≤x∨1000000<y):=by
 rw [Bool.eq_iff_iff,bM,rP,yV]
 cases a <;> simp [or_assoc]
theorem pm3:dh (pJ N p) N (([]:List (Str×Bool)),0)=some (Dk (.inl ()) (fun e=>.inr e) (jb (ePm p) p.aO.length 0)):=by
 have hs:=hp.s
 have hm:=hp.m
 refine PV (fun i=>(seen (VA p) i,(i:Int))) (fun i hi _=>?_) (fun _=>?_) (by omega)
 ·unfold pJ ePm
  simp only []
  rw [bM,dT (by omega),kS,rH hi,bS,Dc (by omega) hN,bS,GX (by omega),bS,OX,oJ (by omega),Z4,bS,rg_eq,Jm,rP]
  show (bif !lD (VA p i) then _ else bif dup (VA p) i (VA p i) then _ else bif _ then _ else bif !DX p p.aO[i]!.Space then _ else _)=_
  cases lD (VA p i) with
  | false=>rfl
  | true =>
   cases dup (VA p) i (VA p i) with
   | true=>rfl
   | false =>
    by_cases h:Ei p.aO[i]!.Kind=false∨p.aO[i]!.From<0∨p.aO[i]!.To≤p.aO[i]!.From∨1000000<p.aO[i]!.To
    ·rw [dT h,if_pos h];rfl
    ·rw [dF h,if_neg h]
     cases DX p p.aO[i]!.Space with
     | false=>rfl
     | true =>
      by_cases h:10<p.aO[i]!.Locks.length
      ·rw [dT (show (10:Int)<(p.aO[i]!.Locks.length:Int) by omega),if_pos h];rfl
      ·rw [dF (show ¬ (10:Int)<(p.aO[i]!.Locks.length:Int) by omega),if_neg h];rfl
 ·unfold pJ
  simp only []
  rw [bM,dF (by omega),kG]
omit hp hN in
theorem lk_eq {a b:Int}:((aC .neq a 5)||(aC .eql b 5))=decide (a≠5∨b=5):=by
 rw [Bool.eq_iff_iff,wP,yX];simp
theorem lk1 {y:aQ} (hy:y ∈ p.aO):dh (pM N p y) N 0=some (Dk (.inl ()) (fun e=>.inr e) (jb (eLk p y) y.Locks.length 0)):=by
 have hm:=hp.m
 have hl:=hp.l y hy
 refine LZ (fun i hi _=>?_) (fun _=>?_) (by omega)
 ·unfold pM eLk
  rw [bM,dT (by omega),kS,rH hi,bS,EN (by omega) hN,bS,Jm,lk_eq,oJ (by omega)]
  show (bif !pF p y.Locks[i]! then _ else bif decide ((xK p y.Locks[i]!).Kind≠5∨y.Kind=5) then _ else _)=_
  cases pF p y.Locks[i]! with
  | false=>rfl
  | true =>
   by_cases h:(xK p y.Locks[i]!).Kind≠5∨y.Kind=5
   ·rw [dT h,if_pos h];rfl
   ·rw [dF h,if_neg h];rfl
 ·unfold pM
  rw [bM,dF (by omega),kG]
theorem lk2:dh (pK N p) N 0=some (Dk (.inl ()) (fun e=>.inr e) (jb (Y3 p) p.aO.length 0)):=by
 have hm:=hp.m
 refine LZ (fun i hi _=>?_) (fun _=>?_) (by omega)
 ·unfold pK
  rw [bM,dT (by omega),kS,rH hi,bS,lk1 hp hN (DT hi),oJ (by omega),bS]
  show Sum.elim _ _ (Dk _ _ (Y3 p i))=_
  unfold Dk
  by_cases h:Y3 p i=0
  ·rw [if_pos h,if_pos h];rfl
  ·rw [if_neg h,if_neg h];rfl
 ·unfold pK
  rw [bM,dF (by omega),kG]
theorem QL:uU N p=some (PU (jb (ePm p) p.aO.length 0) (jb (Y3 p) p.aO.length 0)):=by
 unfold uU
 rw [pm3 hp hN,GY,lk2 hp hN,GY]
 unfold PU
 split
 ·split
  ·rename_i h;rw [h]
  ·rfl
 ·rfl
omit hp hN in
theorem big_eq:(((aC .gtr (List.length p.bP:Int) 30)||(aC .gtr (List.length p.aW:Int) 30))||(aC .gtr (List.length p.aO:Int) 20))=decide (30<p.bP.length∨30<p.aW.length∨20<p.aO.length):=by
 rw [Bool.eq_iff_iff];simp only [rP,Bool.or_eq_true,decide_eq_true_eq];omega
omit hp hN in
theorem gas_eq {g:Int}:((aC .lss g 1)||(aC .gtr g 10000))=decide (g<1∨10000<g):=by
 rw [Bool.eq_iff_iff];simp
theorem JZ:vz N p=some (vP p):=by
  have hx:=hp.x
  unfold vz vP
  rw [big_eq,gas_eq]
  by_cases h:30<p.bP.length∨30<p.aW.length∨20<p.aO.length
  · rw [dT h,if_pos h];rfl
  · rw [dF h,if_neg h,kG]
    by_cases h:p.gY<1∨10000<p.gY
    · rw [dT h,if_pos h];rfl
    · rw [dF h,if_neg h,kG,Tn hp hN,bS,wP]
      generalize PU (jb (eSp p) p.bP.length 0) (jb (Vz p) p.bP.length 0)=E
      unfold PU
      by_cases h:E=0
      · rw [dT h, if_pos h, Bool.not_true, kG, exL hp (by omega), GY, QL hp hN]
        unfold PU
        split
        · rfl
        · rfl
      · rw [dF h,if_neg h];rfl
end
end Go.KB
namespace Go.KB
set_option linter.unusedVariables false
end Go.KB
