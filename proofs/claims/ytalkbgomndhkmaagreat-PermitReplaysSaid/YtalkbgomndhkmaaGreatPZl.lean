/- Plain laws of chapter 7: loops, names, sets of names. Plain laws of chapter 7: searches, names, places of spaces and permits. Plain laws of chapter 7: CheckPlan. Plain laws of chapter 7: which plans are looked at. No condition. -/
import Derived.Test.YtalkbgomndhkmaaGreatPZa
import Derived.Test.YtalkbgomndhkmaaGreatGPure
namespace Go.KB
set_option linter.unusedVariables false
theorem w64i {n:Int} (h0:-9223372036854775808≤n) (h1:n≤9223372036854775807):IntKind.i64.wrap n=n:=Jr h0 h1
theorem dT {p:Prop} [Decidable p] (h:p):decide p=true:=decide_eq_true h
theorem dF {p:Prop} [Decidable p] (h:¬p):decide p=false:=decide_eq_false h
def iV (e:Nat→Int):Nat→Nat→Int
 | 0,_=>0
 | k+1,i=>if e i=0 then iV e k (i+1) else e i
theorem FX {e:Nat→Int}:∀ {k i:Nat},iV e k i=0→∀ j,i≤j→j<i+k→e j=0:=by
 intro k
 induction k with
 | zero=>intro i _ j h1 h2;omega
 | succ k ih =>
  intro i h j h1 h2
  simp only [iV] at h
  split at h
  ·rename_i h0
   rcases Nat.eq_or_lt_of_le h1 with rfl | h1
   ·exact h0
   ·exact ih h j h1 (by omega)
  ·rename_i h0;exact absurd h h0
def wP {O:Type} (fin:O) (err:Int→O) (z:Int):O:=if z=0 then fin else err z
theorem Nw {e:Nat→Int} {k i:Nat} (h:e i=0):iV e (k+1) i=iV e k (i+1):=by simp [iV,h]
theorem Ny {e:Nat→Int} {k i:Nat} (h:e i≠0):iV e (k+1) i=e i:=by simp [iV,h]
theorem zO {O:Type} {n N:Nat} {f:Int→Option (Int ⊕ O)} {e:Nat→Int} {fin:O} {err:Int→O} (hf:∀ i:Nat,i<n→(∀ j,j<i→e j=0)→f (i:Int)=if e i=0 then some (.inl ((i+1:Nat):Int)) else some (.inr (err (e i)))) (he:(∀ j,j<n→e j=0)→f (n:Int)=some (.inr fin)) (hN:n<N) :
  dU f N 0=some (wP fin err (iV e n 0)):=by
 have key:∀ k i,i+k=n→(∀ j,j<i→e j=0)→∀ M,k<M→dU f M (i:Int)=some (wP fin err (iV e k i)):=by
  intro k
  induction k with
  | zero =>
   intro i hi hz M hM
   obtain ⟨M,rfl⟩:∃ m,M=m+1:=⟨M - 1,by omega⟩
   have:i=n:=by omega
   subst this
   simp only [dU,he hz,iV];rfl
  | succ k ih =>
   intro i hi hz M hM
   obtain ⟨M,rfl⟩:∃ m,M=m+1:=⟨M - 1,by omega⟩
   simp only [dU,hf i (by omega) hz]
   by_cases h0:e i=0
   ·rw [if_pos h0,Nw h0]
    exact ih (i+1) (by omega) (fun j hj=>by
     rcases Nat.lt_succ_iff_lt_or_eq.1 hj with h | rfl
     ·exact hz j h
     ·exact h0) M (by omega)
   ·rw [if_neg h0,Ny h0]
    unfold wP
    rw [if_neg h0]
 exact key n 0 (by omega) (fun j hj=>absurd hj (Nat.not_lt_zero _)) N (by omega)
theorem Q8 {S O:Type} {n N:Nat} {f:S→Option (S ⊕ O)} {e:Nat→Int} {fin:O} {err:Int→O} (g:Nat→S) (hf:∀ i:Nat,i<n→(∀ j,j<i→e j=0)→f (g i)=if e i=0 then some (.inl (g (i+1))) else some (.inr (err (e i)))) (he:(∀ j,j<n→e j=0)→f (g n)=some (.inr fin)) (hN:n<N) :
  dU f N (g 0)=some (wP fin err (iV e n 0)):=by
 have key:∀ k i,i+k=n→(∀ j,j<i→e j=0)→∀ M,k<M→dU f M (g i)=some (wP fin err (iV e k i)):=by
  intro k
  induction k with
  | zero =>
   intro i hi hz M hM
   obtain ⟨M,rfl⟩:∃ m,M=m+1:=⟨M - 1,by omega⟩
   have:i=n:=by omega
   subst this
   simp only [dU,he hz,iV];rfl
  | succ k ih =>
   intro i hi hz M hM
   obtain ⟨M,rfl⟩:∃ m,M=m+1:=⟨M - 1,by omega⟩
   simp only [dU,hf i (by omega) hz]
   by_cases h0:e i=0
   ·rw [if_pos h0,Nw h0]
    exact ih (i+1) (by omega) (fun j hj=>by
     rcases Nat.lt_succ_iff_lt_or_eq.1 hj with h | rfl
     ·exact hz j h
     ·exact h0) M (by omega)
   ·rw [if_neg h0,Ny h0]
    unfold wP
    rw [if_neg h0]
 exact key n 0 (by omega) (fun j hj=>absurd hj (Nat.not_lt_zero _)) N (by omega)
theorem CB {α:Type} [Inhabited α] {l:List α} {i:Nat} (h:i<l.length):l[i]! = l[i]:=by simp [h]
theorem zL {α:Type} [Inhabited α] {l:List α} {i:Nat} (h:i<l.length):idx l (i:Int)=some l[i]!:=by rw [jd h,CB h]
theorem Qp {α:Type} {b:Bool} {x y:α}:(bif b then some x else some y)=some (bif b then x else y):=by cases b <;> rfl
theorem GI {α β:Type} [DecidableEq α] (z:β) (x k:α) (y:β):∀ m:List (α×β),jr z (sG m x y) k=if k=x then y else jr z m k
 | []=>by
  by_cases h:k=x
  ·subst h;simp [jr,sG]
  ·simp [jr,sG,h]
 | p :: r=>by
  by_cases hp:x=p.1
  ·subst hp
   by_cases h:k=p.1
   ·subst h;simp [jr,sG]
   ·simp [jr,sG,h]
  ·by_cases h : k = p.1
   ·subst h;simp [jr,sG,hp,Ne.symm hp]
   ·simp [jr,sG,hp,h,GI z x k y r]
theorem rJ (a b:Str):zK .eql a b=decide (a=b):=by
 unfold zK
 rw [Bool.eq_iff_iff]
 simp
theorem UE (a b:Str):zK .neq a b = !decide (a=b):=by
 rw [← rJ];rfl
def dup (nm:Nat→Str):Nat→Str→Bool
 | 0,_=>false
 | i+1,x=>decide (x=nm i)||dup nm i x
def seen (nm:Nat→Str):Nat→List (Str×Bool)
 | 0=>[]
 | i+1=>sG (seen nm i) (nm i) true
theorem Ls (nm:Nat→Str) (x:Str):∀ i,jr false (seen nm i) x=dup nm i x
 | 0=>rfl
 | i+1=>by
  simp only [seen,dup,GI,Ls nm x i]
  by_cases h:x=nm i <;> simp [h]
theorem SI (nm:Nat→Str) (x:Str):∀ i,dup nm i x=true↔∃ j,j<i∧nm j=x
 | 0=>by simp [dup]
 | i+1=>by
  simp only [dup,Bool.or_eq_true,decide_eq_true_eq,SI nm x i]
  constructor
  ·rintro (h | ⟨j,h1,h2⟩)
   ·exact ⟨i,by omega,h.symm⟩
   ·exact ⟨j,by omega,h2⟩
  ·rintro ⟨j,h1,h2⟩
   by_cases hj:j=i
   ·subst hj;exact .inl h2.symm
   ·exact .inr ⟨j,by omega,h2⟩
def same (nm:Nat→Str) (x:Str) (j:Nat):Int:=if nm j=x then 5 else 0
def jJv (x0:Str) (s1:Int):Option (Int ⊕ (Unit ⊕ Bool)) :=
 bif (aF .lss s1 (List.length x0:Int)) then ((idx x0 s1).bind fun v2=>bif ((!(((aF .geq ((UInt8.toNat v2:Nat):Int) 97)&&(aF .leq ((UInt8.toNat v2:Nat):Int) 122))||((aF .geq ((UInt8.toNat v2:Nat):Int) 65)&&(aF .leq ((UInt8.toNat v2:Nat):Int) 90))))&&((aF .eql s1 0)||((aF .neq ((UInt8.toNat v2:Nat):Int) 45)&&((aF .lss ((UInt8.toNat v2:Nat):Int) 48)||(aF .gtr ((UInt8.toNat v2:Nat):Int) 57))))) then (some (.inr (Sum.inr false))) else (some (.inl (IntKind.i64.wrap (s1+1))))) else (some (.inr (Sum.inl ())))
def nameF (N:Nat) (x0:Str):Option (Bool) :=
 bif ((aF .lss (List.length x0:Int) 1)||(aF .gtr (List.length x0:Int) 12)) then (some false) else ((dU (jJv x0) N 0).bind fun o5=>Sum.elim (fun l7=>some true) (fun r8=>some r8) o5)
theorem jJk {N:Nat} {s:Str} (hN:13≤N):nameF N s=some (lZ s):=by
  unfold nameF
  by_cases hlen:s.length<1∨12<s.length
  · have hc:(aF .lss (s.length:Int) 1||aF .gtr (s.length:Int) 12)=true:=by
      simp;omega
    rw [hc,lQ]
    congr 1
    unfold lZ
    rcases hlen with h | h
    · have : s = [] := List.eq_nil_of_length_eq_zero (by omega)
      subst this;rfl
    · cases s with
      | nil=>rfl
      | cons c r=>simp at h;simp;intro h';omega
  · have hc:(aF .lss (s.length:Int) 1||aF .gtr (s.length:Int) 12)=false:=by
      rw [Bool.or_eq_false_iff];simp;omega
    rw [hc,lT]
    cases s with
    | nil=>simp at hlen
    | cons c r =>
      have hr:r.length<12:=by simp at hlen;omega
      have hbad:∀ i (hi:i<(c :: r).length),((!(((aF .geq ((UInt8.toNat (c :: r)[i]:Nat):Int) 97)&&(aF .leq ((UInt8.toNat (c :: r)[i]:Nat):Int) 122))||((aF .geq ((UInt8.toNat (c :: r)[i]:Nat):Int) 65)&&(aF .leq ((UInt8.toNat (c :: r)[i]:Nat):Int) 90))))&&((aF .eql (i:Int) 0)||((aF .neq ((UInt8.toNat (c :: r)[i]:Nat):Int) 45)&&((aF .lss ((UInt8.toNat (c :: r)[i]:Nat):Int) 48)||(aF .gtr ((UInt8.toNat (c :: r)[i]:Nat):Int) 57))))) =
          !(if i=0 then Aq (c :: r)[i] else xA (c :: r)[i]):=by
        intro i hi
        split
        · rename_i h0;subst h0
          simp only [iW,Int.natCast_zero,decide_true,Bool.true_or,Bool.and_true]
          rfl
        · rename_i h0
          rw [iW,show decide ((i:Int)=0)=false by rw [decide_eq_false_iff_not];omega,Bool.false_or]
          unfold xA Aq chr
          simp only [qN,bW,uf,BA,wK]
          generalize ((UInt8.toNat (c :: r)[i]:Nat):Int)=x
          rw [Bool.eq_iff_iff]
          simp only [Bool.and_eq_true,Bool.or_eq_true,Bool.not_eq_true',Bool.or_eq_false_iff,Bool.and_eq_false_iff,decide_eq_true_eq,decide_eq_false_iff_not]
          omega
      rw [UJ (c :: r).length (if lZ (c :: r) then .inl () else .inr false) (fun i=>∀ j (h:j<(c :: r).length),j<i→(if j=0 then Aq (c :: r)[j] else xA (c :: r)[j])=true) ?_ ?_ (fun j _ h=>absurd h (Nat.not_lt_zero _)) N (by simp;omega)]
      · cases lZ (c :: r) <;> rfl
      · intro i hi hp
        unfold jJv
        rw [bW,show decide ((i:Int)<((c :: r).length:Int))=true by rw [decide_eq_true_eq];omega,lQ,jd hi,bS,hbad i hi,qx (show i<9223372036854775807 by simp at hi;omega)]
        cases hg:(if i=0 then Aq (c :: r)[i] else xA (c :: r)[i]) with
        | true =>
          refine .inl ⟨rfl,fun j hj hji=>?_⟩
          rcases Nat.lt_succ_iff_lt_or_eq.1 hji with h | rfl
          · exact hp j hj h
          · exact hg
        | false =>
          refine .inr ?_
          have:lZ (c :: r)=false:=by
            rw [Bool.eq_false_iff]
            intro h
            simp only [lZ,Bool.and_eq_true,decide_eq_true_eq] at h
            obtain ⟨⟨_,h1⟩,h2⟩:=h
            rw [List.all_eq_true] at h2
            cases i with
            | zero=>simp [h1] at hg
            | succ i =>
              simp at hg
              have:=h2 _ (List.getElem_mem (by simpa using hi:i<r.length))
              rw [this] at hg;cases hg
          rw [this];rfl
      · intro hp
        unfold jJv
        rw [bW,show decide ((((c :: r).length:Nat):Int)<((c :: r).length:Int))=false by simp,lT]
        have:lZ (c :: r)=true:=by
          simp only [lZ,Bool.and_eq_true,decide_eq_true_eq]
          refine ⟨⟨hr,(by have h:=hp 0 (by simp) (by simp);rw [if_pos rfl] at h;exact h)⟩,?_⟩
          rw [List.all_eq_true]
          intro x hx
          obtain ⟨j,hj,rfl⟩:=List.getElem_of_mem hx
          have:=hp (j+1) (by simp;omega) (by simp;omega)
          simpa using this
        rw [this];rfl
theorem A7 {N:Nat} {s:Str} (hN:13≤N):wV N s=some (lZ s):=jJk hN
end Go.KB
namespace Go.KB
set_option linter.unusedVariables false
theorem Kw {O:Type} {n N:Nat} {f:Int→Option (Int ⊕ O)} (R:Nat→O) (hf:∀ i:Nat,i<n→(f (i:Int)=some (.inl ((i+1:Nat):Int))∧R i=R (i+1))∨f (i:Int)=some (.inr (R i))) (he:f (n:Int)=some (.inr (R n))) (hN:n<N):dU f N 0=some (R 0):=by
 have key:∀ k i,i+k=n→∀ M,k<M→dU f M (i:Int)=some (R i):=by
  intro k
  induction k with
  | zero =>
   intro i hi M hM
   obtain ⟨M,rfl⟩:∃ m,M=m+1:=⟨M - 1,by omega⟩
   have:i=n:=by omega
   subst this
   simp only [dU,he]
  | succ k ih =>
   intro i hi M hM
   obtain ⟨M,rfl⟩:∃ m,M=m+1:=⟨M - 1,by omega⟩
   rcases hf i (by omega) with ⟨h1,h2⟩ | h1
   ·simp only [dU,h1];rw [h2];exact ih (i+1) (by omega) M (by omega)
   ·simp only [dU,h1]
 exact key n 0 (by omega) N (by omega)
theorem drop_at {α:Type} {l:List α} {i:Nat} (h:i<l.length):l.drop i=l[i] :: l.drop (i+1):=List.drop_eq_getElem_cons h
theorem UD {α:Type} {l:List α} {N:Nat} {f:Int→Option (Int ⊕ (Unit ⊕ Bool))} {g:α→Bool} (hf:∀ (i:Nat) (h:i<l.length),f (i:Int)=bif g l[i] then some (.inl ((i+1:Nat):Int)) else some (.inr (.inr false))) (he:f (l.length:Int)=some (.inr (.inl ()))) (hN:l.length<N) :
  ((dU f N 0).bind fun o=>Sum.elim (fun _=>some true) (fun r=>some r) o)=some (l.all g):=by
 rw [Kw (fun i=>bif (l.drop i).all g then .inl () else .inr false) (fun i hi=>?_) (by simp [he]) hN]
 ·simp only [List.drop_zero,bS];cases l.all g <;> rfl
 ·rw [hf i hi]
  simp only [drop_at hi,List.all_cons]
  cases g l[i]
  ·exact .inr rfl
  ·exact .inl ⟨rfl,by simp⟩
theorem PK {α:Type} {l:List α} {N:Nat} {f:Int→Option (Int ⊕ (Unit ⊕ Bool))} {g:α→Bool} (hf:∀ (i:Nat) (h:i<l.length),f (i:Int)=bif g l[i] then some (.inr (.inr true)) else some (.inl ((i+1:Nat):Int))) (he:f (l.length:Int)=some (.inr (.inl ()))) (hN:l.length<N) :
  ((dU f N 0).bind fun o=>Sum.elim (fun _=>some false) (fun r=>some r) o)=some (l.any g):=by
 rw [Kw (fun i=>bif (l.drop i).any g then .inr true else .inl ()) (fun i hi=>?_) (by simp [he]) hN]
 ·simp only [List.drop_zero,bS];cases l.any g <;> rfl
 ·rw [hf i hi]
  simp only [drop_at hi,List.any_cons]
  cases g l[i]
  ·exact .inl ⟨rfl,by simp⟩
  ·exact .inr rfl
def Il {α:Type} (g:α→Bool) (l:List α):Int:=if l.findIdx g<l.length then (l.findIdx g:Int) else -1
theorem zf {α:Type} {l:List α} {N:Nat} {f:Int→Option (Int ⊕ (Unit ⊕ Int))} {g:α→Bool} (hf:∀ (i:Nat) (h:i<l.length),f (i:Int)=bif g l[i] then some (.inr (.inr (i:Int))) else some (.inl ((i+1:Nat):Int))) (he:f (l.length:Int)=some (.inr (.inl ()))) (hN:l.length<N) :
  ((dU f N 0).bind fun o=>Sum.elim (fun _=>some (-1:Int)) (fun r=>some r) o)=some (Il g l):=by
 rw [Kw (fun i=>if (l.drop i).findIdx g<(l.drop i).length then .inr (((i+(l.drop i).findIdx g:Nat)):Int) else .inl ()) (fun i hi=>?_) (by simp [he]) hN]
 ·simp only [List.drop_zero,Nat.zero_add,bS,Il];split <;> rfl
 ·rw [hf i hi]
  simp only [drop_at hi,List.findIdx_cons]
  cases g l[i]
  ·refine .inl ⟨rfl,?_⟩
   simp only [lT,List.length_cons,Nat.add_lt_add_iff_right]
   split
   ·congr 2;omega
   ·rfl
  ·refine .inr ?_
   simp only [lQ,List.length_cons,Nat.zero_lt_succ,if_true,Nat.add_zero]
theorem CS {α:Type} {g:α→Bool} {l:List α} (h:l.findIdx g<l.length):Il g l=(l.findIdx g:Int):=if_pos h
theorem H7 {α:Type} {g:α→Bool} {l:List α} (h:¬ l.findIdx g<l.length):Il g l = -1:=if_neg h
theorem FU {α:Type} {g:α→Bool} {l:List α}:decide (Il g l<0) = !l.any g:=by
 have:l.any g=true↔l.findIdx g<l.length:=by
  rw [List.any_eq_true]
  exact List.findIdx_lt_length.symm
 by_cases h:l.findIdx g<l.length
 ·rw [CS h,this.2 h];simp
 ·rw [H7 h,Bool.eq_false_iff.2 (fun x=>h (this.1 x))];rfl
theorem EO {N:Nat} {s:Str} (hN:13≤N):qK N s=some (lZ s):=by
  unfold qK
  by_cases hlen:s.length<1∨12<s.length
  · have hc : (aF .lss (s.length : Int) 1 || aF .gtr (s.length : Int) 12) = true := by simp; omega
    rw [hc]
    simp only [Bool.not_true,lT,bS,Bool.true_or,lQ]
    congr 1
    unfold lZ
    rcases hlen with h | h
    · have : s = [] := List.eq_nil_of_length_eq_zero (by omega)
      subst this;rfl
    · cases s with
      | nil=>rfl
      | cons c r=>simp at h;simp;intro h';omega
  · have hc : (aF .lss (s.length : Int) 1 || aF .gtr (s.length : Int) 12) = false := by rw [Bool.or_eq_false_iff]; simp; omega
    rw [hc]
    cases s with
    | nil=>simp at hlen
    | cons c r =>
      have hr:r.length<12:=by simp at hlen;omega
      have hl:∀ x:UInt8,yR N ((UInt8.toNat x:Nat):Int)=some (Aq x):=fun x=>rfl
      have h0:idx (c :: r) 0=some c:=by have:=jd (xs:=c :: r) (i:=0) (by simp);simpa using this
      simp only [Bool.not_false,lQ,h0,bS,hl,Bool.false_or]
      cases hc:Aq c with
      | false=>simp [lZ,hc]
      | true =>
        simp only [Bool.not_true,lT]
        have h1:∀ (i:Nat) (hi:i<(c :: r).length),tN N (c :: r) (i:Int)=bif xA (c :: r)[i] then some (.inl ((i+1:Nat):Int)) else some (.inr (.inr false)):=by
          intro i hi
          unfold tN
          rw [bW,dT (by omega),lQ,jd hi,bS,hl,bS,qx (show i<9223372036854775807 by simp at hi;omega)]
          have:((!Aq (c :: r)[i]&&aF .neq ((UInt8.toNat (c :: r)[i]:Nat):Int) 45)&&(aF .lss ((UInt8.toNat (c :: r)[i]:Nat):Int) 48||aF .gtr ((UInt8.toNat (c :: r)[i]:Nat):Int) 57)) = !xA (c :: r)[i]:=by
            unfold xA chr
            cases Aq (c :: r)[i]
            · simp only [Bool.not_false,Bool.true_and,Bool.false_or,qN,bW,uf]
              generalize ((UInt8.toNat (c :: r)[i]:Nat):Int)=x
              rw [Bool.eq_iff_iff]
              simp only [Bool.and_eq_true,Bool.or_eq_true,Bool.not_eq_true',Bool.or_eq_false_iff,Bool.and_eq_false_iff,decide_eq_true_eq,decide_eq_false_iff_not]
              omega
            · simp
          rw [this]
          cases xA (c :: r)[i] <;> rfl
        have h2:tN N (c :: r) ((c :: r).length:Int)=some (.inr (.inl ())):=by
          unfold tN
          rw [bW,dF (by omega),lT]
        rw [UD h1 h2 (by simp;omega)]
        simp [lZ,hc,xA,hr]
instance:Inhabited dG:=⟨⟨[],false,[]⟩⟩
instance:Inhabited aH:=⟨⟨[],0,[],0,0,[]⟩⟩
instance:Inhabited cu:=⟨⟨0,0,0⟩⟩
def isS (s:Str) (y:dG):Bool:=decide (y.Name=s)
def Qc (s:Str) (y:aH):Bool:=decide (y.Name=s)
theorem Yb {N:Nat} {l:List dG} {f:dG→Option Bool} {g:dG→Bool} (hf:∀ y,f y=some (g y)) (hl:l.length<1000000) (hN:1000000≤N):kN N l f=some (Il g l):=by
 unfold kN
 refine zf (fun i hi=>?_) ?_ (by omega)
 ·unfold jR
  rw [bW,dT (by omega),lQ,jd hi,bS,hf,bS,qx (by omega)]
 ·unfold jR
  rw [bW,dF (by omega),lT]
theorem Yc {N:Nat} {l:List aH} {f:aH→Option Bool} {g:aH→Bool} (hf:∀ y,f y=some (g y)) (hl:l.length<1000000) (hN:1000000≤N):jV N l f=some (Il g l):=by
 unfold jV
 refine zf (fun i hi=>?_) ?_ (by omega)
 ·unfold jy
  rw [bW,dT (by omega),lQ,jd hi,bS,hf,bS,qx (by omega)]
 ·unfold jy
  rw [bW,dF (by omega),lT]
theorem zh {N:Nat} {p:GPermitPlan} {s:Str} (hl:p.bM.length<1000000) (hN:1000000≤N):mD N p s=some (Il (isS s) p.bM):=by
 unfold mD
 refine zf (fun i hi=>?_) ?_ (by omega)
 ·unfold xP
  rw [bW,dT (by omega),lQ,jd hi,bS,rJ,qx (by omega)];rfl
 ·unfold xP
  rw [bW,dF (by omega),lT]
theorem H6 {N:Nat} {p:GPermitPlan} {s:Str} (hl:p.aj.length<1000000) (hN:1000000≤N):qH N p s=some (Il (Qc s) p.aj):=by
 unfold qH
 refine zf (fun i hi=>?_) ?_ (by omega)
 ·unfold wB
  rw [bW,dT (by omega),lQ,jd hi,bS,rJ,qx (by omega)];rfl
 ·unfold wB
  rw [bW,dF (by omega),lT]
def A8 {α:Type} (z:α) (g:α→Bool) (l:List α):α×Bool:=match l.find? g with | some y=>(y,true) | none=>(z,false)
theorem N9 {α:Type} {g:α→Bool}:∀ {l:List α},(l.findIdx g<l.length∧∃ h:l.findIdx g<l.length,l.find? g=some l[l.findIdx g])∨(¬ l.findIdx g<l.length∧l.find? g=none):=by
 intro l
 by_cases h:l.findIdx g<l.length
 ·refine .inl ⟨h,h,?_⟩
  exact (List.find?_eq_getElem?_findIdx ..).trans (List.getElem?_eq_getElem h)
 ·refine .inr ⟨h,?_⟩
  rw [List.find?_eq_getElem?_findIdx,List.getElem?_eq_none (by omega)]
theorem AP {N:Nat} {p:GPermitPlan} {s:Str} (hl:p.bM.length<1000000) (hN:1000000≤N):jw N p s=some (A8 ⟨[],false,[]⟩ (isS s) p.bM):=by
 unfold jw
 rw [Yb (g:=isS s) (fun y=>by unfold vI;rw [rJ];rfl) hl hN,bS,bW]
 unfold A8
 rcases N9 (g:=isS s) (l:=p.bM) with ⟨_,h,h2⟩ | ⟨h,h2⟩
 ·rw [h2,CS h,dF (by omega),lT,jd h];rfl
 ·rw [h2,H7 h];rfl
theorem Fv {N:Nat} {p:GPermitPlan} {s:Str} (hl:p.aj.length<1000000) (hN:1000000≤N):oU N p s=some (A8 ⟨[],0,[],0,0,[]⟩ (Qc s) p.aj):=by
 unfold oU
 rw [Yc (g:=Qc s) (fun y=>by unfold uT;rw [rJ];rfl) hl hN,bS,bW]
 unfold A8
 rcases N9 (g:=Qc s) (l:=p.aj) with ⟨_,h,h2⟩ | ⟨h,h2⟩
 ·rw [h2,CS h,dF (by omega),lT,jd h];rfl
 ·rw [h2,H7 h];rfl
theorem JB {α:Type} {z:α} {g:α→Bool} {l:List α}:(A8 z g l).2=l.any g:=by
 unfold A8
 cases h:l.find? g with
 | none=>simp only [];rw [eq_comm,Bool.eq_false_iff];intro hx;rw [List.any_eq_true] at hx;obtain ⟨x,hx,hg⟩:=hx;exact absurd hg (by simpa using List.find?_eq_none.1 h x hx)
 | some y=>simp only [];rw [eq_comm,List.any_eq_true];exact ⟨y,List.mem_of_find?_eq_some h,List.find?_some h⟩
end Go.KB
namespace Go.KB
set_option linter.unusedVariables false
def Je (a b:Int):Int:=if a=0 then b else a
def CO (k:Int):Bool:=decide (0≤k)&&decide (k≤5)
def LC (p:GPermitPlan) (i:Nat):Str:=p.bM[i]!.Name
def N8 (p:GPermitPlan) (i:Nat):Str:=p.aj[i]!.Name
def xw (p:GPermitPlan) (s:Str):Bool:=p.bM.any (isS s)
def mX (p:GPermitPlan) (s:Str):Bool:=p.aj.any (Qc s)
def sH (p:GPermitPlan) (s:Str):aH:=(A8 ⟨[],0,[],0,0,[]⟩ (Qc s) p.aj).1
def y9 (p:GPermitPlan) (s:Str):dG:=(A8 ⟨[],false,[]⟩ (isS s) p.bM).1
def eSp (p:GPermitPlan) (i:Nat):Int:=if lZ (LC p i)=false then 4 else if dup (LC p) i (LC p i)=true then 5 else if 30<p.bM[i]!.Next.length then 8 else 0
def eNx (p:GPermitPlan) (y:dG) (j:Nat):Int:=if xw p y.Next[j]! = false then 6 else if y.Next[j]! = y.Name then 3 else 0
def P5 (p:GPermitPlan) (i:Nat):Int:=iV (eNx p p.bM[i]!) p.bM[i]!.Next.length 0
def eEx (p:GPermitPlan) (i:Nat):Int:=if CO p.eG[i]!.A=false∨CO p.eG[i]!.B=false∨p.eG[i]!.Reach<0∨2<p.eG[i]!.Reach then 2 else 0
def ePm (p:GPermitPlan) (i:Nat):Int:=if lZ (N8 p i)=false then 4 else if dup (N8 p) i (N8 p i)=true then 5 else
 if CO p.aj[i]!.Kind=false∨p.aj[i]!.From<0∨p.aj[i]!.To≤p.aj[i]!.From∨1000000<p.aj[i]!.To then 2 else if xw p p.aj[i]!.Space=false then 6 else if 10<p.aj[i]!.Locks.length then 8 else 0
def eLk (p:GPermitPlan) (y:aH) (j:Nat):Int:=if mX p y.Locks[j]! = false then 6 else if (sH p y.Locks[j]!).Kind≠5∨y.Kind=5 then 3 else 0
def UK (p:GPermitPlan) (i:Nat):Int:=iV (eLk p p.aj[i]!) p.aj[i]!.Locks.length 0
def uG (p:GPermitPlan):Int:=if 30<p.bM.length∨30<p.eG.length∨20<p.aj.length then 8 else if p.fU<1∨10000<p.fU then 2 else
 Je (Je (iV (eSp p) p.bM.length 0) (iV (P5 p) p.bM.length 0)) (Je (iV (eEx p) p.eG.length 0) (Je (iV (ePm p) p.aj.length 0) (iV (UK p) p.aj.length 0)))
structure EP (p:GPermitPlan):Prop where
 s:p.bM.length<1000
 x:p.eG.length<1000
 m:p.aj.length<1000
 n:∀ y ∈ p.bM,y.Next.length<1000
 l:∀ y ∈ p.aj,y.Locks.length<1000
theorem rH {α:Type} [Inhabited α] {l:List α} {i:Nat} (h:i<l.length):l[i]! ∈ l:=by rw [CB h];exact List.getElem_mem h
theorem xB {A:Type} {fin:A} {E:Int} {K:A→Option Int}:((some (wP (Sum.inl fin) (fun e=>Sum.inr e) E):Option (A ⊕ Int)).bind fun o=>Sum.elim (fun l=>K l) (fun r=>some r) o)=if E=0 then K fin else some E:=by
 unfold wP
 by_cases h:E=0
 ·rw [if_pos h,if_pos h];rfl
 ·rw [if_neg h,if_neg h];rfl
theorem V9 {α:Type} [Inhabited α] {nm:α→Str} {x:Str} {l:List α} {i:Nat} (hi:i≤l.length):dup (fun j=>nm l[j]!) i x=(decide (0≤Il (fun y=>decide (nm y=x)) l)&&decide (Il (fun y=>decide (nm y=x)) l<(i:Int))):=by
 rw [Bool.eq_iff_iff,SI,Bool.and_eq_true,decide_eq_true_eq,decide_eq_true_eq]
 constructor
 ·rintro ⟨j,hj,hx⟩
  have hjl:j<l.length:=by omega
  rw [CB hjl] at hx
  have hle:l.findIdx (fun y=>decide (nm y=x))≤j:=by
   rcases Nat.lt_or_ge j (l.findIdx (fun y=>decide (nm y=x))) with h | h
   ·exact absurd (List.not_of_lt_findIdx h) (by simp [hx])
   ·exact h
  rw [CS (by omega)]
  omega
 ·rintro ⟨h1,h2⟩
  by_cases h:l.findIdx (fun y=>decide (nm y=x))<l.length
  ·rw [CS h] at h2
   refine ⟨l.findIdx (fun y=>decide (nm y=x)),by omega,?_⟩
   show nm l[l.findIdx (fun y=>decide (nm y=x))]! = x
   rw [CB h]
   have:=List.findIdx_getElem (xs:=l) (p:=fun y=>decide (nm y=x)) (w:=h)
   simpa using this
  ·rw [H7 h] at h1;omega
theorem jQe {α:Type} [Inhabited α] {nm:α→Str} {x:Str} {l:List α}:dup (fun j=>nm l[j]!) l.length x=l.any (fun y=>decide (nm y=x)):=by
 rw [V9 (Nat.le_refl _)]
 have:=FU (g:=fun y=>decide (nm y=x)) (l:=l)
 by_cases h:l.findIdx (fun y=>decide (nm y=x))<l.length
 ·rw [CS h] at this ⊢
  rw [dF (by omega)] at this
  rw [dT (by omega),dT (by omega)]
  cases hx:l.any (fun y=>decide (nm y=x)) with
  | true=>rfl
  | false=>rw [hx] at this;cases this
 ·rw [H7 h] at this ⊢
  cases hx:l.any (fun y=>decide (nm y=x)) with
  | false=>rfl
  | true=>rw [hx] at this;cases this
theorem Xj {N:Nat} {k:Int}:y8 N k=some (CO k):=rfl
theorem jJw {N:Nat} {k:Int}:zW N k=some (CO k):=rfl
section
variable {N:Nat} {p:GPermitPlan} (hp:EP p) (hN:1000000≤N)
include hp hN
theorem cs3:dU (pz N p) N (([]:List (Str×Bool)),0)=some (wP (.inl (seen (LC p) p.bM.length)) (fun e=>.inr e) (iV (eSp p) p.bM.length 0)):=by
 have hs:=hp.s
 refine Q8 (fun i=>(seen (LC p) i,(i:Int))) (fun i hi _=>?_) (fun _=>?_) (by omega)
 ·unfold pz eSp
  simp only []
  rw [bW,dT (by omega),lQ,zL hi,bS,EO (by omega),bS,Ls,qx (by omega),uf]
  show (bif !lZ (LC p i) then _ else bif dup (LC p) i (LC p i) then _ else _)=_
  cases lZ (LC p i) with
  | false=>rfl
  | true =>
   cases dup (LC p) i (LC p i) with
   | true=>rfl
   | false =>
    by_cases h:30<p.bM[i]!.Next.length
    ·rw [dT (show (30:Int)<(p.bM[i]!.Next.length:Int) by omega),if_pos h];rfl
    ·rw [dF (show ¬ (30:Int)<(p.bM[i]!.Next.length:Int) by omega),if_neg h];rfl
 ·unfold pz
  simp only []
  rw [bW,dF (by omega),lT]
theorem cs1 {y:dG} (hy:y ∈ p.bM):dU (pG N (seen (LC p) p.bM.length) y) N 0=some (wP (.inl ()) (fun e=>.inr e) (iV (eNx p y) y.Next.length 0)):=by
 have hl:=hp.n y hy
 refine zO (fun i hi _=>?_) (fun _=>?_) (by omega)
 ·unfold pG eNx
  rw [bW,dT (by omega),lQ,zL hi,bS,Ls,show dup (LC p) p.bM.length y.Next[i]! = xw p y.Next[i]! from jQe,qx (by omega),rJ]
  cases xw p y.Next[i]! with
  | false=>rfl
  | true =>
   by_cases h:y.Next[i]! = y.Name
   ·rw [dT h,if_pos h];rfl
   ·rw [dF h,if_neg h];rfl
 ·unfold pG
  rw [bW,dF (by omega),lT]
theorem cs2:dU (pF N p (seen (LC p) p.bM.length)) N 0=some (wP (.inl ()) (fun e=>.inr e) (iV (P5 p) p.bM.length 0)):=by
 have hs:=hp.s
 refine zO (fun i hi _=>?_) (fun _=>?_) (by omega)
 ·unfold pF
  rw [bW,dT (by omega),lQ,zL hi,bS,cs1 hp hN (rH hi),qx (by omega),bS]
  show Sum.elim _ _ (wP _ _ (P5 p i))=_
  unfold wP
  by_cases h:P5 p i=0
  ·rw [if_pos h,if_pos h];rfl
  ·rw [if_neg h,if_neg h];rfl
 ·unfold pF
  rw [bW,dF (by omega),lT]
theorem P6:uj N p=some (Je (iV (eSp p) p.bM.length 0) (iV (P5 p) p.bM.length 0)):=by
 unfold uj
 rw [cs3 hp hN,xB,cs2 hp hN,xB]
 unfold Je
 split
 ·split
  ·rename_i h;rw [h]
  ·rfl
 ·rfl
theorem rcs3:dU (qf N p) N 0=some (wP (.inl ()) (fun e=>.inr e) (iV (eSp p) p.bM.length 0)):=by
 have hs:=hp.s
 refine zO (fun i hi _=>?_) (fun _=>?_) (by omega)
 ·unfold qf eSp
  rw [bW,dT (by omega),lQ,zL hi,bS,A7 (by omega),bS]
  have hd:xQ N p (i:Int) (LC p i)=some (dup (LC p) i (LC p i)):=by
   unfold xQ
   rw [zh (by omega) hN,bS,BA,bW]
   exact congrArg some (V9 (nm:=dG.Name) (x:=LC p i) (l:=p.bM) (Nat.le_of_lt hi)).symm
  rw [bS,show xQ N p (i:Int) p.bM[i]!.Name=_ from hd,bS,bS,qx (by omega),uf]
  show (bif !lZ (LC p i) then _ else bif dup (LC p) i (LC p i) then _ else _)=_
  cases lZ (LC p i) with
  | false=>rfl
  | true =>
   cases dup (LC p) i (LC p i) with
   | true=>rfl
   | false =>
    by_cases h:30<p.bM[i]!.Next.length
    ·rw [dT (show (30:Int)<(p.bM[i]!.Next.length:Int) by omega),if_pos h];rfl
    ·rw [dF (show ¬ (30:Int)<(p.bM[i]!.Next.length:Int) by omega),if_neg h];rfl
 ·unfold qf
  rw [bW,dF (by omega),lT]
theorem rcs1 {i:Nat} (hi:i<p.bM.length):dU (qh N p (i:Int)) N 0=some (wP (.inl ()) (fun e=>.inr e) (P5 p i)):=by
 have hl:=hp.n _ (rH hi)
 have hs:=hp.s
 refine zO (fun j hj _=>?_) (fun _=>?_) (by omega)
 ·unfold qh eNx
  rw [zL hi,bS,bW,dT (by omega),lQ,bS,zL hj,bS,zh (by omega) hN,bS,bW,FU,bS,zL hj,bS,bS,qx (by omega),rJ]
  show (bif !xw p _ then _ else _)=_
  cases xw p p.bM[i]!.Next[j]! with
  | false=>rfl
  | true =>
   by_cases h:p.bM[i]!.Next[j]! = p.bM[i]!.Name
   ·rw [dT h,if_pos h];rfl
   ·rw [dF h,if_neg h];rfl
 ·unfold qh
  rw [zL hi,bS,bW,dF (by omega),lT]
theorem rcs2:dU (qg N p) N 0=some (wP (.inl ()) (fun e=>.inr e) (iV (P5 p) p.bM.length 0)):=by
 have hs:=hp.s
 refine zO (fun i hi _=>?_) (fun _=>?_) (by omega)
 ·unfold qg
  rw [bW,dT (by omega),lQ,rcs1 hp hN hi,qx (by omega),bS]
  unfold wP
  by_cases h:P5 p i=0
  ·rw [if_pos h,if_pos h];rfl
  ·rw [if_neg h,if_neg h];rfl
 ·unfold qg
  rw [bW,dF (by omega),lT]
theorem NH:uP N p=some (Je (iV (eSp p) p.bM.length 0) (iV (P5 p) p.bM.length 0)):=by
 unfold uP
 rw [rcs3 hp hN,xB,rcs2 hp hN,xB]
 unfold Je
 split
 ·split
  ·rename_i h;rw [h]
  ·rfl
 ·rfl
omit hp hN in
theorem ex_eq {a b:Bool} {r:Int}:((((!a)||(!(bif !(!a) then b else false)))||(aF .lss r 0))||(aF .gtr r 2))=decide (a=false∨b=false∨r<0∨2<r):=by
 rw [Bool.eq_iff_iff,bW,uf]
 cases a <;> cases b <;> simp
omit hN in
theorem exL (hN2:p.eG.length<N):dU (qF N p) N 0=some (wP (.inl ()) (fun e=>.inr e) (iV (eEx p) p.eG.length 0)):=by
 have hs:=hp.x
 refine zO (fun i hi _=>?_) (fun _=>?_) hN2
 ·unfold qF eEx
  simp only [Xj]
  rw [bW,dT (by omega),lQ,zL hi,bS,bS,Qp,bS,qx (by omega),ex_eq]
  by_cases h:CO p.eG[i]!.A=false∨CO p.eG[i]!.B=false∨p.eG[i]!.Reach<0∨2<p.eG[i]!.Reach
  ·rw [dT h,if_pos h];rfl
  ·rw [dF h,if_neg h];rfl
 ·unfold qF
  rw [bW,dF (by omega),lT]
omit hN in
theorem rexL (hN2:p.eG.length<N):dU (wC N p) N 0=some (wP (.inl ()) (fun e=>.inr e) (iV (eEx p) p.eG.length 0)):=exL hp hN2
omit hp hN in
theorem rg_eq {a:Bool} {x y:Int}:((((!a)||(aF .lss x 0))||(aF .geq x y))||(aF .gtr y 1000000))=decide (a=false∨x<0∨y≤x∨1000000<y):=by
 rw [Bool.eq_iff_iff,bW,uf,BA]
 cases a <;> simp [or_assoc]
theorem pm3:dU (oK N p) N (([]:List (Str×Bool)),0)=some (wP (.inl ()) (fun e=>.inr e) (iV (ePm p) p.aj.length 0)):=by
 have hs:=hp.s
 have hm:=hp.m
 refine Q8 (fun i=>(seen (N8 p) i,(i:Int))) (fun i hi _=>?_) (fun _=>?_) (by omega)
 ·unfold oK ePm
  simp only []
  rw [bW,dT (by omega),lQ,zL hi,bS,AP (by omega) hN,bS,EO (by omega),bS,Ls,qx (by omega),Xj,bS,rg_eq,JB,uf]
  show (bif !lZ (N8 p i) then _ else bif dup (N8 p) i (N8 p i) then _ else bif _ then _ else bif !xw p p.aj[i]!.Space then _ else _)=_
  cases lZ (N8 p i) with
  | false=>rfl
  | true =>
   cases dup (N8 p) i (N8 p i) with
   | true=>rfl
   | false =>
    by_cases h:CO p.aj[i]!.Kind=false∨p.aj[i]!.From<0∨p.aj[i]!.To≤p.aj[i]!.From∨1000000<p.aj[i]!.To
    ·rw [dT h,if_pos h];rfl
    ·rw [dF h,if_neg h]
     cases xw p p.aj[i]!.Space with
     | false=>rfl
     | true =>
      by_cases h:10<p.aj[i]!.Locks.length
      ·rw [dT (show (10:Int)<(p.aj[i]!.Locks.length:Int) by omega),if_pos h];rfl
      ·rw [dF (show ¬ (10:Int)<(p.aj[i]!.Locks.length:Int) by omega),if_neg h];rfl
 ·unfold oK
  simp only []
  rw [bW,dF (by omega),lT]
theorem rpm3:dU (rf N p) N 0=some (wP (.inl ()) (fun e=>.inr e) (iV (ePm p) p.aj.length 0)):=by
 have hs:=hp.s
 have hm:=hp.m
 refine zO (fun i hi _=>?_) (fun _=>?_) (by omega)
 ·unfold rf ePm
  have hd:aF .lss (Il (Qc p.aj[i]!.Name) p.aj) (i:Int)=dup (N8 p) i (N8 p i):=by
   have h1:=V9 (nm:=aH.Name) (x:=N8 p i) (l:=p.aj) (Nat.le_of_lt hi)
   have h2:(0:Int)≤Il (Qc p.aj[i]!.Name) p.aj:=by
    have:=FU (g:=Qc p.aj[i]!.Name) (l:=p.aj)
    have h3:p.aj.any (Qc p.aj[i]!.Name)=true:=List.any_eq_true.2 ⟨_,rH hi,by simp [Qc]⟩
    rw [h3] at this
    simpa using this
   rw [bW]
   show _=dup (fun j=>p.aj[j]!.Name) i (N8 p i)
   rw [h1]
   show _=(decide ((0:Int)≤Il (Qc p.aj[i]!.Name) p.aj)&&decide (Il (Qc p.aj[i]!.Name) p.aj<(i:Int)))
   rw [dT h2,Bool.true_and]
  rw [bW,dT (by omega),lQ,zL hi,bS,A7 (by omega),bS,H6 (by omega) hN,bS,hd,jJw,bS,rg_eq,zh (by omega) hN,bS,bW,FU,uf,qx (by omega)]
  show (bif !lZ (N8 p i) then _ else bif dup (N8 p) i (N8 p i) then _ else bif _ then _ else bif !xw p p.aj[i]!.Space then _ else _)=_
  cases lZ (N8 p i) with
  | false=>rfl
  | true =>
   cases dup (N8 p) i (N8 p i) with
   | true=>rfl
   | false =>
    by_cases h:CO p.aj[i]!.Kind=false∨p.aj[i]!.From<0∨p.aj[i]!.To≤p.aj[i]!.From∨1000000<p.aj[i]!.To
    ·rw [dT h,if_pos h];rfl
    ·rw [dF h,if_neg h]
     cases xw p p.aj[i]!.Space with
     | false=>rfl
     | true =>
      by_cases h:10<p.aj[i]!.Locks.length
      ·rw [dT (show (10:Int)<(p.aj[i]!.Locks.length:Int) by omega),if_pos h];rfl
      ·rw [dF (show ¬ (10:Int)<(p.aj[i]!.Locks.length:Int) by omega),if_neg h];rfl
 ·unfold rf
  rw [bW,dF (by omega),lT]
omit hp hN in
theorem lk_eq {a b:Int}:((aF .neq a 5)||(aF .eql b 5))=decide (a≠5∨b=5):=by
 rw [Bool.eq_iff_iff,qN,iW];simp
theorem lk1 {y:aH} (hy:y ∈ p.aj):dU (oM N p y) N 0=some (wP (.inl ()) (fun e=>.inr e) (iV (eLk p y) y.Locks.length 0)):=by
 have hm:=hp.m
 have hl:=hp.l y hy
 refine zO (fun i hi _=>?_) (fun _=>?_) (by omega)
 ·unfold oM eLk
  rw [bW,dT (by omega),lQ,zL hi,bS,Fv (by omega) hN,bS,JB,lk_eq,qx (by omega)]
  show (bif !mX p y.Locks[i]! then _ else bif decide ((sH p y.Locks[i]!).Kind≠5∨y.Kind=5) then _ else _)=_
  cases mX p y.Locks[i]! with
  | false=>rfl
  | true =>
   by_cases h:(sH p y.Locks[i]!).Kind≠5∨y.Kind=5
   ·rw [dT h,if_pos h];rfl
   ·rw [dF h,if_neg h];rfl
 ·unfold oM
  rw [bW,dF (by omega),lT]
theorem lk2:dU (oL N p) N 0=some (wP (.inl ()) (fun e=>.inr e) (iV (UK p) p.aj.length 0)):=by
 have hm:=hp.m
 refine zO (fun i hi _=>?_) (fun _=>?_) (by omega)
 ·unfold oL
  rw [bW,dT (by omega),lQ,zL hi,bS,lk1 hp hN (rH hi),qx (by omega),bS]
  show Sum.elim _ _ (wP _ _ (UK p i))=_
  unfold wP
  by_cases h:UK p i=0
  ·rw [if_pos h,if_pos h];rfl
  ·rw [if_neg h,if_neg h];rfl
 ·unfold oL
  rw [bW,dF (by omega),lT]
theorem rlk1 {y:aH} (hy:y ∈ p.aj):dU (ru N p y) N 0=some (wP (.inl ()) (fun e=>.inr e) (iV (eLk p y) y.Locks.length 0)):=by
 have hm:=hp.m
 have hl:=hp.l y hy
 refine zO (fun i hi _=>?_) (fun _=>?_) (by omega)
 ·unfold ru eLk
  rw [bW,dT (by omega),lQ,zL hi,bS,H6 (by omega) hN,bS,bW,FU,qx (by omega)]
  show (bif !mX p y.Locks[i]! then _ else _)=_
  cases hx:mX p y.Locks[i]! with
  | false=>rfl
  | true =>
   rw [Bool.not_true,lT]
   have hg:idx p.aj (Il (Qc y.Locks[i]!) p.aj)=some (sH p y.Locks[i]!):=by
    unfold sH A8
    rcases N9 (g:=Qc y.Locks[i]!) (l:=p.aj) with ⟨_,h,h2⟩ | ⟨h,h2⟩
    ·rw [h2,CS h,jd h]
    ·have:=FU (g:=Qc y.Locks[i]!) (l:=p.aj)
     rw [show p.aj.any (Qc y.Locks[i]!)=true from hx,H7 h] at this
     cases this
   rw [hg,bS,lk_eq]
   by_cases h:(sH p y.Locks[i]!).Kind≠5∨y.Kind=5
   ·rw [dT h,if_pos h];rfl
   ·rw [dF h,if_neg h];rfl
 ·unfold ru
  rw [bW,dF (by omega),lT]
theorem rlk2:dU (rq N p) N 0=some (wP (.inl ()) (fun e=>.inr e) (iV (UK p) p.aj.length 0)):=by
 have hm:=hp.m
 refine zO (fun i hi _=>?_) (fun _=>?_) (by omega)
 ·unfold rq
  rw [bW,dT (by omega),lQ,zL hi,bS,rlk1 hp hN (rH hi),qx (by omega),bS]
  show Sum.elim _ _ (wP _ _ (UK p i))=_
  unfold wP
  by_cases h:UK p i=0
  ·rw [if_pos h,if_pos h];rfl
  ·rw [if_neg h,if_neg h];rfl
 ·unfold rq
  rw [bW,dF (by omega),lT]
theorem NI:tu N p=some (Je (iV (ePm p) p.aj.length 0) (iV (UK p) p.aj.length 0)):=by
 unfold tu
 rw [pm3 hp hN,xB,lk2 hp hN,xB]
 unfold Je
 split
 ·split
  ·rename_i h;rw [h]
  ·rfl
 ·rfl
omit hp hN in
theorem jJy:(((aF .gtr (List.length p.bM:Int) 30)||(aF .gtr (List.length p.eG:Int) 30))||(aF .gtr (List.length p.aj:Int) 20))=decide (30<p.bM.length∨30<p.eG.length∨20<p.aj.length):=by
 rw [Bool.eq_iff_iff];simp only [uf,Bool.or_eq_true,decide_eq_true_eq];omega
omit hp hN in
theorem jJu {g:Int}:((aF .lss g 1)||(aF .gtr g 10000))=decide (g<1∨10000<g):=by
 rw [Bool.eq_iff_iff];simp
theorem Lr:tV N p=some (uG p):=by
  have hx:=hp.x
  unfold tV uG
  rw [jJy,jJu]
  by_cases h:30<p.bM.length∨30<p.eG.length∨20<p.aj.length
  · rw [dT h,if_pos h];rfl
  · rw [dF h,if_neg h,lT]
    by_cases h:p.fU<1∨10000<p.fU
    · rw [dT h,if_pos h];rfl
    · rw [dF h,if_neg h,lT,P6 hp hN,bS,qN]
      generalize Je (iV (eSp p) p.bM.length 0) (iV (P5 p) p.bM.length 0)=E
      unfold Je
      by_cases h:E=0
      · rw [dT h, if_pos h, Bool.not_true, lT, exL hp (by omega), xB, NI hp hN]
        unfold Je
        split
        · rfl
        · rfl
      · rw [dF h,if_neg h];rfl
theorem JR:uw N p=some (uG p):=by
  have hx:=hp.x
  unfold uw uG
  rw [jJy,jJu]
  by_cases h:30<p.bM.length∨30<p.eG.length∨20<p.aj.length
  · rw [dT h,if_pos h];rfl
  · rw [dF h,if_neg h,lT]
    by_cases h:p.fU<1∨10000<p.fU
    · rw [dT h,if_pos h];rfl
    · rw [dF h,if_neg h,lT,NH hp hN,bS,qN]
      generalize Je (iV (eSp p) p.bM.length 0) (iV (P5 p) p.bM.length 0)=E
      unfold Je
      by_cases h:E=0
      · rw [dT h, if_pos h, Bool.not_true, lT, rexL hp (by omega), xB, rpm3 hp hN, xB, rlk2 hp hN, xB]
        split
        · split
          · split
            · rename_i h1 h2 h3;rw [h3]
            · rfl
          · rfl
        · rfl
      · rw [dF h,if_neg h];rfl
end
end Go.KB
namespace Go.KB
set_option linter.unusedVariables false
theorem ZJ {N:Nat} (p:GPermitPlan) (hN:1000000≤N):y7 N p=some true∨(y7 N p=some false∧EP p∧p.bM.length≤40∧p.eG.length≤40∧p.aj.length≤30∧(∀ y ∈ p.bM,y.Next.length≤40∧y.Name.length≤40)∧∀ y ∈ p.aj,y.Locks.length≤20∧y.Name.length≤40):=by
  unfold y7
  have hb:(((aF .gtr (List.length p.bM:Int) 40)||(aF .gtr (List.length p.eG:Int) 40))||(aF .gtr (List.length p.aj:Int) 30))=decide (40<p.bM.length∨40<p.eG.length∨30<p.aj.length):=by
    rw [Bool.eq_iff_iff];simp only [uf,Bool.or_eq_true,decide_eq_true_eq];omega
  rw [hb]
  by_cases h:40<p.bM.length∨40<p.eG.length∨30<p.aj.length
  · rw [dT h];exact .inl rfl
  rw [dF h,lT]
  have hs:∀ (i:Nat) (hi:i<p.bM.length),rF N p (i:Int)=bif (decide (40<p.bM[i].Next.length)||decide (40<p.bM[i].Name.length)) then some (.inr (.inr true)) else some (.inl ((i+1:Nat):Int)):=by
    intro i hi
    unfold rF
    rw [bW,dT (by omega),lQ,jd hi,bS,qx (by omega)]
    simp only [uf]
    by_cases h1:40<p.bM[i].Next.length
    · rw [dT h1,dT (show (40:Int)<(p.bM[i].Next.length:Int) by omega)];rfl
    · rw [dF h1, dF (show ¬ (40 : Int) < (p.bM[i].Next.length : Int) by omega), Bool.not_false, lQ, bS, Bool.false_or, Bool.false_or]
      by_cases h2:40<p.bM[i].Name.length
      · rw [dT h2,dT (show (40:Int)<(p.bM[i].Name.length:Int) by omega)]
      · rw [dF h2,dF (show ¬ (40:Int)<(p.bM[i].Name.length:Int) by omega)]
  have hs2:rF N p (p.bM.length:Int)=some (.inr (.inl ())):=by
    unfold rF
    rw [bW,dF (by omega),lT]
  have hm:∀ (i:Nat) (hi:i<p.aj.length),rG N p (i:Int)=bif (decide (20<p.aj[i].Locks.length)||decide (40<p.aj[i].Name.length)) then some (.inr (.inr true)) else some (.inl ((i+1:Nat):Int)):=by
    intro i hi
    unfold rG
    rw [bW,dT (by omega),lQ,jd hi,bS,qx (by omega)]
    simp only [uf]
    by_cases h1:20<p.aj[i].Locks.length
    · rw [dT h1,dT (show (20:Int)<(p.aj[i].Locks.length:Int) by omega)];rfl
    · rw [dF h1, dF (show ¬ (20 : Int) < (p.aj[i].Locks.length : Int) by omega), Bool.not_false, lQ, bS, Bool.false_or, Bool.false_or]
      by_cases h2:40<p.aj[i].Name.length
      · rw [dT h2,dT (show (40:Int)<(p.aj[i].Name.length:Int) by omega)]
      · rw [dF h2,dF (show ¬ (40:Int)<(p.aj[i].Name.length:Int) by omega)]
  have hm2:rG N p (p.aj.length:Int)=some (.inr (.inl ())):=by
    unfold rG
    rw [bW,dF (by omega),lT]
  have e1:=Kw (N:=N) (fun i=>bif (p.bM.drop i).any (fun y=>decide (40<y.Next.length)||decide (40<y.Name.length)) then .inr true else .inl ()) (f:=rF N p) (n:=p.bM.length) (fun i hi=>by
    rw [hs i hi]
    simp only [drop_at hi,List.any_cons]
    cases (decide (40<p.bM[i].Next.length)||decide (40<p.bM[i].Name.length))
    · exact .inl ⟨rfl,by simp⟩
    · exact .inr rfl) (by rw [hs2];simp) (by omega)
  have e2:=Kw (N:=N) (fun i=>bif (p.aj.drop i).any (fun y=>decide (20<y.Locks.length)||decide (40<y.Name.length)) then .inr true else .inl ()) (f:=rG N p) (n:=p.aj.length) (fun i hi=>by
    rw [hm i hi]
    simp only [drop_at hi,List.any_cons]
    cases (decide (20<p.aj[i].Locks.length)||decide (40<p.aj[i].Name.length))
    · exact .inl ⟨rfl,by simp⟩
    · exact .inr rfl) (by rw [hm2];simp) (by omega)
  rw [e1,e2]
  simp only [List.drop_zero,bS]
  cases ha:p.bM.any (fun y=>decide (40<y.Next.length)||decide (40<y.Name.length)) with
  | true=>exact .inl rfl
  | false =>
    cases hc:p.aj.any (fun y=>decide (20<y.Locks.length)||decide (40<y.Name.length)) with
    | true=>exact .inl rfl
    | false =>
      have ha':∀ y ∈ p.bM,y.Next.length≤40∧y.Name.length≤40:=fun y hy=>by
        have:=List.any_eq_false.1 ha y hy
        simp only [Bool.or_eq_true,decide_eq_true_eq,not_or] at this
        omega
      have hc':∀ y ∈ p.aj,y.Locks.length≤20∧y.Name.length≤40:=fun y hy=>by
        have:=List.any_eq_false.1 hc y hy
        simp only [Bool.or_eq_true,decide_eq_true_eq,not_or] at this
        omega
      exact .inr ⟨rfl,⟨by omega,by omega,by omega,fun y hy=>by have:=(ha' y hy).1;omega,fun y hy=>by have:=(hc' y hy).1;omega⟩,by omega,by omega,by omega,ha',hc'⟩
end Go.KB
