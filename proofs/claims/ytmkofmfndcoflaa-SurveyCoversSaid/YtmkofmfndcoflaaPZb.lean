/- Plain laws: names. No condition. -/
import Derived.Test.YtmkofmfndcoflaaPZa
namespace Go.KB
set_option linter.unusedVariables false
def Jq (x0:Str) (s1:Int):Option (Int ⊕ (Unit ⊕ Bool)) :=
 bif (ai .lss s1 (List.length x0:Int)) then ((idx x0 s1).bind fun v2=>bif ((!(((ai .geq ((UInt8.toNat v2:Nat):Int) 97)&&(ai .leq ((UInt8.toNat v2:Nat):Int) 122))||((ai .geq ((UInt8.toNat v2:Nat):Int) 65)&&(ai .leq ((UInt8.toNat v2:Nat):Int) 90))))&&((ai .eql s1 0)||((ai .neq ((UInt8.toNat v2:Nat):Int) 45)&&((ai .lss ((UInt8.toNat v2:Nat):Int) 48)||(ai .gtr ((UInt8.toNat v2:Nat):Int) 57))))) then (some (.inr (Sum.inr false))) else (some (.inl (IntKind.i64.wrap (s1+1))))) else (some (.inr (Sum.inl ())))
def Ku (N:Nat) (x0:Str):Option (Bool) :=
 bif ((ai .lss (List.length x0:Int) 1)||(ai .gtr (List.length x0:Int) 12)) then (some false) else ((bQ (Jq x0) N 0).bind fun o5=>Sum.elim (fun l7=>some true) (fun r8=>some r8) o5)
theorem Jr {N:Nat} {s:Str} (hN:13≤N):Ku N s=some (kR s):=by
  unfold Ku
  by_cases hlen:s.length<1∨12<s.length
  · have hc:(ai .lss (s.length:Int) 1||ai .gtr (s.length:Int) 12)=true:=by
      simp;omega
    rw [hc,nZ]
    congr 1
    unfold kR
    rcases hlen with h | h
    · have : s = [] := List.eq_nil_of_length_eq_zero (by omega)
      subst this;rfl
    · cases s with
      | nil=>rfl
      | cons c r=>simp at h;simp;intro h';omega
  · have hc:(ai .lss (s.length:Int) 1||ai .gtr (s.length:Int) 12)=false:=by
      rw [Bool.or_eq_false_iff];simp;omega
    rw [hc,qj]
    cases s with
    | nil=>simp at hlen
    | cons c r =>
      have hr:r.length<12:=by simp at hlen;omega
      have hbad:∀ i (hi:i<(c :: r).length),((!(((ai .geq ((UInt8.toNat (c :: r)[i]:Nat):Int) 97)&&(ai .leq ((UInt8.toNat (c :: r)[i]:Nat):Int) 122))||((ai .geq ((UInt8.toNat (c :: r)[i]:Nat):Int) 65)&&(ai .leq ((UInt8.toNat (c :: r)[i]:Nat):Int) 90))))&&((ai .eql (i:Int) 0)||((ai .neq ((UInt8.toNat (c :: r)[i]:Nat):Int) 45)&&((ai .lss ((UInt8.toNat (c :: r)[i]:Nat):Int) 48)||(ai .gtr ((UInt8.toNat (c :: r)[i]:Nat):Int) 57))))) =
          !(if i=0 then nU (c :: r)[i] else iQ (c :: r)[i]):=by
        intro i hi
        split
        · rename_i h0;subst h0
          simp only [pq,Int.natCast_zero,decide_true,Bool.true_or,Bool.and_true]
          rfl
        · rename_i h0
          rw [pq,show decide ((i:Int)=0)=false by rw [decide_eq_false_iff_not];omega,Bool.false_or]
          unfold iQ nU JZ
          simp only [jB,dN,qF,pz,Gf]
          generalize ((UInt8.toNat (c :: r)[i]:Nat):Int)=x
          rw [Bool.eq_iff_iff]
          simp only [Bool.and_eq_true,Bool.or_eq_true,Bool.not_eq_true',Bool.or_eq_false_iff,Bool.and_eq_false_iff,decide_eq_true_eq,decide_eq_false_iff_not]
          omega
      rw [rJ (c :: r).length (if kR (c :: r) then .inl () else .inr false) (fun i=>∀ j (h:j<(c :: r).length),j<i→(if j=0 then nU (c :: r)[j] else iQ (c :: r)[j])=true) ?_ ?_ (fun j _ h=>absurd h (Nat.not_lt_zero _)) N (by simp;omega)]
      · cases kR (c :: r) <;> rfl
      · intro i hi hp
        unfold Jq
        rw [dN,show decide ((i:Int)<((c :: r).length:Int))=true by rw [decide_eq_true_eq];omega,nZ,rH hi,bS,hbad i hi,wS (show i<9223372036854775807 by simp at hi;omega)]
        cases hg:(if i=0 then nU (c :: r)[i] else iQ (c :: r)[i]) with
        | true =>
          refine .inl ⟨rfl,fun j hj hji=>?_⟩
          rcases Nat.lt_succ_iff_lt_or_eq.1 hji with h | rfl
          · exact hp j hj h
          · exact hg
        | false =>
          refine .inr ?_
          have:kR (c :: r)=false:=by
            rw [Bool.eq_false_iff]
            intro h
            simp only [kR,Bool.and_eq_true,decide_eq_true_eq] at h
            obtain ⟨⟨_,h1⟩,h2⟩:=h
            rw [List.all_eq_true] at h2
            cases i with
            | zero=>simp [h1] at hg
            | succ i =>
              simp at hg
              have:=h2 _ (List.getElem_mem (by simpa using hi:i<r.length))
              rw [this] at hg;cases hg
          rw [this];rfl
      · intro hp
        unfold Jq
        rw [dN,show decide ((((c :: r).length:Nat):Int)<((c :: r).length:Int))=false by simp,qj]
        have:kR (c :: r)=true:=by
          simp only [kR,Bool.and_eq_true,decide_eq_true_eq]
          refine ⟨⟨hr,(by have h:=hp 0 (by simp) (by simp);rw [if_pos rfl] at h;exact h)⟩,?_⟩
          rw [List.all_eq_true]
          intro x hx
          obtain ⟨j,hj,rfl⟩:=List.getElem_of_mem hx
          have:=hp (j+1) (by simp;omega) (by simp;omega)
          simpa using this
        rw [this];rfl
theorem Hq {N:Nat} {s:Str} (hN:13≤N):oW N s=some (kR s):=Jr hN
end Go.KB
