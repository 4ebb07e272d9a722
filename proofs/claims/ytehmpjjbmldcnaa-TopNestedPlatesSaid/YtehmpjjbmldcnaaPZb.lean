/- Plain laws: names. Plain laws: maps as sets of names, texts that are compared, rows of numbers that are the same. No condition. -/
import Derived.Test.YtehmpjjbmldcnaaPZa
namespace Go.KB
set_option linter.unusedVariables false
def VI (x0:Str) (s1:Int):Option (Int ⊕ (Unit ⊕ Bool)) :=
 bif (aB .lss s1 (List.length x0:Int)) then ((idx x0 s1).bind fun v2=>bif ((!(((aB .geq ((UInt8.toNat v2:Nat):Int) 97)&&(aB .leq ((UInt8.toNat v2:Nat):Int) 122))||((aB .geq ((UInt8.toNat v2:Nat):Int) 65)&&(aB .leq ((UInt8.toNat v2:Nat):Int) 90))))&&((aB .eql s1 0)||((aB .neq ((UInt8.toNat v2:Nat):Int) 45)&&((aB .lss ((UInt8.toNat v2:Nat):Int) 48)||(aB .gtr ((UInt8.toNat v2:Nat):Int) 57))))) then (some (.inr (Sum.inr false))) else (some (.inl (IntKind.i64.wrap (s1+1))))) else (some (.inr (Sum.inl ())))
def X8 (N:Nat) (x0:Str):Option (Bool) :=
 bif ((aB .lss (List.length x0:Int) 1)||(aB .gtr (List.length x0:Int) 12)) then (some false) else ((aX (VI x0) N 0).bind fun o5=>Sum.elim (fun l7=>some true) (fun r8=>some r8) o5)
theorem VJ {N:Nat} {s:Str} (hN:13≤N):X8 N s=some (vH s):=by
  unfold X8
  by_cases hlen:s.length<1∨12<s.length
  · have hc:(aB .lss (s.length:Int) 1||aB .gtr (s.length:Int) 12)=true:=by
      simp;omega
    rw [hc,iP]
    congr 1
    unfold vH
    rcases hlen with h | h
    · have : s = [] := List.eq_nil_of_length_eq_zero (by omega)
      subst this;rfl
    · cases s with
      | nil=>rfl
      | cons c r=>simp at h;simp;intro h';omega
  · have hc:(aB .lss (s.length:Int) 1||aB .gtr (s.length:Int) 12)=false:=by
      rw [Bool.or_eq_false_iff];simp;omega
    rw [hc,iT]
    cases s with
    | nil=>simp at hlen
    | cons c r =>
      have hr:r.length<12:=by simp at hlen;omega
      have hbad:∀ i (hi:i<(c :: r).length),((!(((aB .geq ((UInt8.toNat (c :: r)[i]:Nat):Int) 97)&&(aB .leq ((UInt8.toNat (c :: r)[i]:Nat):Int) 122))||((aB .geq ((UInt8.toNat (c :: r)[i]:Nat):Int) 65)&&(aB .leq ((UInt8.toNat (c :: r)[i]:Nat):Int) 90))))&&((aB .eql (i:Int) 0)||((aB .neq ((UInt8.toNat (c :: r)[i]:Nat):Int) 45)&&((aB .lss ((UInt8.toNat (c :: r)[i]:Nat):Int) 48)||(aB .gtr ((UInt8.toNat (c :: r)[i]:Nat):Int) 57))))) =
          !(if i=0 then xA (c :: r)[i] else oV (c :: r)[i]):=by
        intro i hi
        split
        · rename_i h0;subst h0
          simp only [lK,Int.natCast_zero,decide_true,Bool.true_or,Bool.and_true]
          rfl
        · rename_i h0
          rw [lK,show decide ((i:Int)=0)=false by rw [decide_eq_false_iff_not];omega,Bool.false_or]
          unfold oV xA Xu
          simp only [lV,aW,fE,jD,nZ]
          generalize ((UInt8.toNat (c :: r)[i]:Nat):Int)=x
          rw [Bool.eq_iff_iff]
          simp only [Bool.and_eq_true,Bool.or_eq_true,Bool.not_eq_true',Bool.or_eq_false_iff,Bool.and_eq_false_iff,decide_eq_true_eq,decide_eq_false_iff_not]
          omega
      rw [uS (c :: r).length (if vH (c :: r) then .inl () else .inr false) (fun i=>∀ j (h:j<(c :: r).length),j<i→(if j=0 then xA (c :: r)[j] else oV (c :: r)[j])=true) ?_ ?_ (fun j _ h=>absurd h (Nat.not_lt_zero _)) N (by simp;omega)]
      · cases vH (c :: r) <;> rfl
      · intro i hi hp
        unfold VI
        rw [aW,show decide ((i:Int)<((c :: r).length:Int))=true by rw [decide_eq_true_eq];omega,iP,mO hi,bS,hbad i hi,lY (show i<9223372036854775807 by simp at hi;omega)]
        cases hg:(if i=0 then xA (c :: r)[i] else oV (c :: r)[i]) with
        | true =>
          refine .inl ⟨rfl,fun j hj hji=>?_⟩
          rcases Nat.lt_succ_iff_lt_or_eq.1 hji with h | rfl
          · exact hp j hj h
          · exact hg
        | false =>
          refine .inr ?_
          have:vH (c :: r)=false:=by
            rw [Bool.eq_false_iff]
            intro h
            simp only [vH,Bool.and_eq_true,decide_eq_true_eq] at h
            obtain ⟨⟨_,h1⟩,h2⟩:=h
            rw [List.all_eq_true] at h2
            cases i with
            | zero=>simp [h1] at hg
            | succ i =>
              simp at hg
              have:=h2 _ (List.getElem_mem (by simpa using hi:i<r.length))
              rw [this] at hg;cases hg
          rw [this];rfl
      · intro hp
        unfold VI
        rw [aW,show decide ((((c :: r).length:Nat):Int)<((c :: r).length:Int))=false by simp,iT]
        have:vH (c :: r)=true:=by
          simp only [vH,Bool.and_eq_true,decide_eq_true_eq]
          refine ⟨⟨hr,(by have h:=hp 0 (by simp) (by simp);rw [if_pos rfl] at h;exact h)⟩,?_⟩
          rw [List.all_eq_true]
          intro x hx
          obtain ⟨j,hj,rfl⟩:=List.getElem_of_mem hx
          have:=hp (j+1) (by simp;omega) (by simp;omega)
          simpa using this
        rw [this];rfl
theorem TG {N:Nat} {s:Str} (hN:13≤N):yh N s=some (vH s):=VJ hN
end Go.KB
namespace Go.KB
set_option linter.unusedVariables false
theorem MW {α β:Type} [DecidableEq α] (z:β) (x k:α) (y:β):∀ m:List (α×β),Dq z (Be m x y) k=if k=x then y else Dq z m k
 | []=>by
  by_cases h:k=x
  ·subst h;simp [Dq,Be]
  ·simp [Dq,Be,h]
 | p :: r=>by
  by_cases hp:x=p.1
  ·subst hp
   by_cases h:k=p.1
   ·subst h;simp [Dq,Be]
   ·simp [Dq,Be,h]
  ·by_cases h : k = p.1
   ·subst h;simp [Dq,Be,hp,Ne.symm hp]
   ·simp [Dq,Be,hp,h,MW z x k y r]
theorem Vs (a b:Str):Tj .eql a b=decide (a=b):=by
 unfold Tj
 rw [Bool.eq_iff_iff]
 simp
def dup (nm:Nat→Str):Nat→Str→Bool
 | 0,_=>false
 | i+1,x=>decide (x=nm i)||dup nm i x
def seen (nm:Nat→Str):Nat→List (Str×Bool)
 | 0=>[]
 | i+1=>Be (seen nm i) (nm i) true
theorem PK (nm:Nat→Str) (x:Str):∀ i,Dq false (seen nm i) x=dup nm i x
 | 0=>rfl
 | i+1=>by
  simp only [seen,dup,MW,PK nm x i]
  by_cases h:x=nm i <;> simp [h]
theorem Oc (nm:Nat→Str) (x:Str):∀ i,dup nm i x=true↔∃ j,j<i∧nm j=x
 | 0=>by simp [dup]
 | i+1=>by
  simp only [dup,Bool.or_eq_true,decide_eq_true_eq,Oc nm x i]
  constructor
  ·rintro (h | ⟨j,h1,h2⟩)
   ·exact ⟨i,by omega,h.symm⟩
   ·exact ⟨j,by omega,h2⟩
  ·rintro ⟨j,h1,h2⟩
   by_cases hj:j=i
   ·subst hj;exact .inl h2.symm
   ·exact .inr ⟨j,by omega,h2⟩
def same (nm:Nat→Str) (x:Str) (j:Nat):Int:=if nm j=x then 5 else 0
theorem DX {e:Nat→Int}:∀ {k i:Nat},iM e k i≠0→∃ j,i≤j∧j<i+k∧iM e k i=e j∧e j≠0∧∀ m,i≤m→m<j→e m=0:=by
 intro k
 induction k with
 | zero=>intro i h;exact absurd rfl h
 | succ k ih =>
  intro i h
  by_cases h0:e i=0
  ·rw [IZ h0] at h ⊢
   obtain ⟨j,h1,h2,h3,h4,h5⟩:=ih h
   refine ⟨j,by omega,by omega,h3,h4,fun m hm hj=>?_⟩
   by_cases hmi:m=i
   ·subst hmi;exact h0
   ·exact h5 m (by omega) hj
  ·rw [I4 h0];exact ⟨i,by omega,by omega,rfl,h0,fun m hm hj=>by omega⟩
theorem Vt (nm:Nat→Str) (x:Str) (i:Nat):iM (same nm x) i 0=if dup nm i x=true then 5 else 0:=by
 by_cases h:dup nm i x=true
 ·rw [if_pos h]
  obtain ⟨j,h1,h2⟩:=(Oc nm x i).1 h
  have hne:iM (same nm x) i 0≠0:=fun e=>by
   have:=EJ e j (by omega) (by omega)
   unfold same at this
   rw [if_pos h2] at this
   cases this
  obtain ⟨k,_,_,h5,_⟩:=DX hne
  rw [h5] at hne ⊢
  unfold same at hne ⊢
  split
  ·rfl
  ·rename_i hk;rw [if_neg hk] at hne;exact absurd rfl hne
 ·rw [if_neg h]
  refine Classical.byContradiction fun hne=>?_
  obtain ⟨k,_,h4,h5,_⟩:=DX hne
  unfold same at h5
  by_cases hk:nm k=x
  ·exact h ((Oc nm x i).2 ⟨k,by omega,hk⟩)
  ·rw [if_neg hk] at h5;exact hne h5
end Go.KB
