/- Plain laws of chapter 7: loops, names, sets of names. No condition. -/
import Derived.Test.YtdmioehoinnamaaGreatDoorPZa
import Derived.Test.YtdmioehoinnamaaGreatDoorGPure
namespace Go.KB
set_option linter.unusedVariables false
theorem dT {p:Prop} [Decidable p] (h:p):decide p=true:=decide_eq_true h
theorem dF {p:Prop} [Decidable p] (h:¬p):decide p=false:=decide_eq_false h
theorem uD {α:Type} [Inhabited α] {l:List α} {i:Nat} (h:i<l.length):l[i]! = l[i]:=by simp [h]
theorem iV {α:Type} [Inhabited α] {l:List α} {i:Nat} (h:i<l.length):idx l (i:Int)=some l[i]!:=by rw [jX h,uD h]
theorem GZ {α β:Type} {f:(List β×Int)→Option ((List β×Int) ⊕ List β)} {N:Nat} (l:List α) (g:α→β) (hf:∀ (i:Nat) (hi:i<l.length) (acc:List β),acc.length=i→f (acc,(i:Int))=some (.inl (acc ++ [g l[i]],((i+1:Nat):Int))))
  (he:∀ acc,f (acc,(l.length:Int))=some (.inr acc)) (hN:l.length<N):bM f N ([],0)=some (l.map g):=by
 have:=Uw (f:=f) l.length (fun i=>(l.take i).map g) (l.map g) (fun i hi=>by
  rw [hf i hi _ (by rw [List.length_map,List.length_take];omega),List.take_succ_eq_append_getElem hi,List.map_append];rfl) (by rw [List.take_length];exact he _) N hN
 simpa using this
theorem Iu {α:Type} {b:Bool} {x y:α}:(bif b then some x else some y)=some (bif b then x else y):=by cases b <;> rfl
theorem Ku {α β:Type} [DecidableEq α] (z:β) (x k:α) (y:β):∀ m:List (α×β),uG z (xB m x y) k=if k=x then y else uG z m k
 | []=>by
  by_cases h:k=x
  ·subst h;simp [uG,xB]
  ·simp [uG,xB,h]
 | p :: r=>by
  by_cases hp:x=p.1
  ·subst hp
   by_cases h:k=p.1
   ·subst h;simp [uG,xB]
   ·simp [uG,xB,h]
  ·by_cases h : k = p.1
   ·subst h;simp [uG,xB,hp,Ne.symm hp]
   ·simp [uG,xB,hp,h,Ku z x k y r]
theorem rH (a b:Str):yR .eql a b=decide (a=b):=by
 unfold yR
 rw [Bool.eq_iff_iff]
 simp
theorem Jt (a b:Str):yR .neq a b = !decide (a=b):=by
 rw [← rH];rfl
def seen (nm:Nat→Str):Nat→List (Str×Bool)
 | 0=>[]
 | i+1=>xB (seen nm i) (nm i) true
def same (nm:Nat→Str) (x:Str) (j:Nat):Int:=if nm j=x then 5 else 0
def Y8 (x0:Str) (s1:Int):Option (Int ⊕ (Unit ⊕ Bool)) :=
 bif (ax .lss s1 (List.length x0:Int)) then ((idx x0 s1).bind fun v2=>bif ((!(((ax .geq ((UInt8.toNat v2:Nat):Int) 97)&&(ax .leq ((UInt8.toNat v2:Nat):Int) 122))||((ax .geq ((UInt8.toNat v2:Nat):Int) 65)&&(ax .leq ((UInt8.toNat v2:Nat):Int) 90))))&&((ax .eql s1 0)||((ax .neq ((UInt8.toNat v2:Nat):Int) 45)&&((ax .lss ((UInt8.toNat v2:Nat):Int) 48)||(ax .gtr ((UInt8.toNat v2:Nat):Int) 57))))) then (some (.inr (Sum.inr false))) else (some (.inl (IntKind.i64.wrap (s1+1))))) else (some (.inr (Sum.inl ())))
def nameF (N:Nat) (x0:Str):Option (Bool) :=
 bif ((ax .lss (List.length x0:Int) 1)||(ax .gtr (List.length x0:Int) 12)) then (some false) else ((bM (Y8 x0) N 0).bind fun o5=>Sum.elim (fun l7=>some true) (fun r8=>some r8) o5)
theorem RQ {N:Nat} {s:Str} (hN:13≤N):nameF N s=some (vH s):=by
  unfold nameF
  by_cases hlen:s.length<1∨12<s.length
  · have hc:(ax .lss (s.length:Int) 1||ax .gtr (s.length:Int) 12)=true:=by
      simp;omega
    rw [hc,jm]
    congr 1
    unfold vH
    rcases hlen with h | h
    · have : s = [] := List.eq_nil_of_length_eq_zero (by omega)
      subst this;rfl
    · cases s with
      | nil=>rfl
      | cons c r=>simp at h;simp;intro h';omega
  · have hc:(ax .lss (s.length:Int) 1||ax .gtr (s.length:Int) 12)=false:=by
      rw [Bool.or_eq_false_iff];simp;omega
    rw [hc,iP]
    cases s with
    | nil=>simp at hlen
    | cons c r =>
      have hr:r.length<12:=by simp at hlen;omega
      have hbad:∀ i (hi:i<(c :: r).length),((!(((ax .geq ((UInt8.toNat (c :: r)[i]:Nat):Int) 97)&&(ax .leq ((UInt8.toNat (c :: r)[i]:Nat):Int) 122))||((ax .geq ((UInt8.toNat (c :: r)[i]:Nat):Int) 65)&&(ax .leq ((UInt8.toNat (c :: r)[i]:Nat):Int) 90))))&&((ax .eql (i:Int) 0)||((ax .neq ((UInt8.toNat (c :: r)[i]:Nat):Int) 45)&&((ax .lss ((UInt8.toNat (c :: r)[i]:Nat):Int) 48)||(ax .gtr ((UInt8.toNat (c :: r)[i]:Nat):Int) 57))))) =
          !(if i=0 then ER (c :: r)[i] else Dk (c :: r)[i]):=by
        intro i hi
        split
        · rename_i h0;subst h0
          simp only [yP,Int.natCast_zero,decide_true,Bool.true_or,Bool.and_true]
          rfl
        · rename_i h0
          rw [yP,show decide ((i:Int)=0)=false by rw [decide_eq_false_iff_not];omega,Bool.false_or]
          unfold Dk ER chr
          simp only [rC,aO,jE,vX,yt]
          generalize ((UInt8.toNat (c :: r)[i]:Nat):Int)=x
          rw [Bool.eq_iff_iff]
          simp only [Bool.and_eq_true,Bool.or_eq_true,Bool.not_eq_true',Bool.or_eq_false_iff,Bool.and_eq_false_iff,decide_eq_true_eq,decide_eq_false_iff_not]
          omega
      rw [KQ (c :: r).length (if vH (c :: r) then .inl () else .inr false) (fun i=>∀ j (h:j<(c :: r).length),j<i→(if j=0 then ER (c :: r)[j] else Dk (c :: r)[j])=true) ?_ ?_ (fun j _ h=>absurd h (Nat.not_lt_zero _)) N (by simp;omega)]
      · cases vH (c :: r) <;> rfl
      · intro i hi hp
        unfold Y8
        rw [aO,show decide ((i:Int)<((c :: r).length:Int))=true by rw [decide_eq_true_eq];omega,jm,jX hi,bS,hbad i hi,kN (show i<9223372036854775807 by simp at hi;omega)]
        cases hg:(if i=0 then ER (c :: r)[i] else Dk (c :: r)[i]) with
        | true =>
          refine .inl ⟨rfl,fun j hj hji=>?_⟩
          rcases Nat.lt_succ_iff_lt_or_eq.1 hji with h | rfl
          · exact hp j hj h
          · exact hg
        | false =>
          refine .inr ?_
          have:vH (c :: r)=false:=by
            rw [Bool.eq_false_iff]
            intro h
            simp only [vH,Bool.and_eq_true,decide_eq_true_eq] at h
            obtain ⟨⟨_,h1⟩,h2⟩:=h
            rw [List.all_eq_true] at h2
            cases i with
            | zero=>simp [h1] at hg
            | succ i =>
              simp at hg
              have:=h2 _ (List.getElem_mem (by simpa using hi:i<r.length))
              rw [this] at hg;cases hg
          rw [this];rfl
      · intro hp
        unfold Y8
        rw [aO,show decide ((((c :: r).length:Nat):Int)<((c :: r).length:Int))=false by simp,iP]
        have:vH (c :: r)=true:=by
          simp only [vH,Bool.and_eq_true,decide_eq_true_eq]
          refine ⟨⟨hr,(by have h:=hp 0 (by simp) (by simp);rw [if_pos rfl] at h;exact h)⟩,?_⟩
          rw [List.all_eq_true]
          intro x hx
          obtain ⟨j,hj,rfl⟩:=List.getElem_of_mem hx
          have:=hp (j+1) (by simp;omega) (by simp;omega)
          simpa using this
        rw [this];rfl
theorem KC {N:Nat} {s:Str} (hN:13≤N):xR N s=some (vH s):=RQ hN
end Go.KB
