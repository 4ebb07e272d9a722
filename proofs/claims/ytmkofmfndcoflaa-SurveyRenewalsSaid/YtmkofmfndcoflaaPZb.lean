/- Plain laws: names. No condition. -/
import Derived.Test.YtmkofmfndcoflaaPZa
namespace Go.KB
set_option linter.unusedVariables false
def Je (x0:Str) (s1:Int):Option (Int ⊕ (Unit ⊕ Bool)) :=
 bif (ax .lss s1 (List.length x0:Int)) then ((idx x0 s1).bind fun v2=>bif ((!(((ax .geq ((UInt8.toNat v2:Nat):Int) 97)&&(ax .leq ((UInt8.toNat v2:Nat):Int) 122))||((ax .geq ((UInt8.toNat v2:Nat):Int) 65)&&(ax .leq ((UInt8.toNat v2:Nat):Int) 90))))&&((ax .eql s1 0)||((ax .neq ((UInt8.toNat v2:Nat):Int) 45)&&((ax .lss ((UInt8.toNat v2:Nat):Int) 48)||(ax .gtr ((UInt8.toNat v2:Nat):Int) 57))))) then (some (.inr (Sum.inr false))) else (some (.inl (IntKind.i64.wrap (s1+1))))) else (some (.inr (Sum.inl ())))
def JY (N:Nat) (x0:Str):Option (Bool) :=
 bif ((ax .lss (List.length x0:Int) 1)||(ax .gtr (List.length x0:Int) 12)) then (some false) else ((bD (Je x0) N 0).bind fun o5=>Sum.elim (fun l7=>some true) (fun r8=>some r8) o5)
theorem Jf {N:Nat} {s:Str} (hN:13≤N):JY N s=some (kV s):=by
  unfold JY
  by_cases hlen:s.length<1∨12<s.length
  · have hc:(ax .lss (s.length:Int) 1||ax .gtr (s.length:Int) 12)=true:=by
      simp;omega
    rw [hc,oC]
    congr 1
    unfold kV
    rcases hlen with h | h
    · have : s = [] := List.eq_nil_of_length_eq_zero (by omega)
      subst this;rfl
    · cases s with
      | nil=>rfl
      | cons c r=>simp at h;simp;intro h';omega
  · have hc:(ax .lss (s.length:Int) 1||ax .gtr (s.length:Int) 12)=false:=by
      rw [Bool.or_eq_false_iff];simp;omega
    rw [hc,qo]
    cases s with
    | nil=>simp at hlen
    | cons c r =>
      have hr:r.length<12:=by simp at hlen;omega
      have hbad:∀ i (hi:i<(c :: r).length),((!(((ax .geq ((UInt8.toNat (c :: r)[i]:Nat):Int) 97)&&(ax .leq ((UInt8.toNat (c :: r)[i]:Nat):Int) 122))||((ax .geq ((UInt8.toNat (c :: r)[i]:Nat):Int) 65)&&(ax .leq ((UInt8.toNat (c :: r)[i]:Nat):Int) 90))))&&((ax .eql (i:Int) 0)||((ax .neq ((UInt8.toNat (c :: r)[i]:Nat):Int) 45)&&((ax .lss ((UInt8.toNat (c :: r)[i]:Nat):Int) 48)||(ax .gtr ((UInt8.toNat (c :: r)[i]:Nat):Int) 57))))) =
          !(if i=0 then ou (c :: r)[i] else iV (c :: r)[i]):=by
        intro i hi
        split
        · rename_i h0;subst h0
          simp only [rY,Int.natCast_zero,decide_true,Bool.true_or,Bool.and_true]
          rfl
        · rename_i h0
          rw [rY,show decide ((i:Int)=0)=false by rw [decide_eq_false_iff_not];omega,Bool.false_or]
          unfold iV ou JI
          simp only [jw,dh,rZ,wG,Gm]
          generalize ((UInt8.toNat (c :: r)[i]:Nat):Int)=x
          rw [Bool.eq_iff_iff]
          simp only [Bool.and_eq_true,Bool.or_eq_true,Bool.not_eq_true',Bool.or_eq_false_iff,Bool.and_eq_false_iff,decide_eq_true_eq,decide_eq_false_iff_not]
          omega
      rw [pV (c :: r).length (if kV (c :: r) then .inl () else .inr false) (fun i=>∀ j (h:j<(c :: r).length),j<i→(if j=0 then ou (c :: r)[j] else iV (c :: r)[j])=true) ?_ ?_ (fun j _ h=>absurd h (Nat.not_lt_zero _)) N (by simp;omega)]
      · cases kV (c :: r) <;> rfl
      · intro i hi hp
        unfold Je
        rw [dh,show decide ((i:Int)<((c :: r).length:Int))=true by rw [decide_eq_true_eq];omega,oC,pJ hi,bS,hbad i hi,uH (show i<9223372036854775807 by simp at hi;omega)]
        cases hg:(if i=0 then ou (c :: r)[i] else iV (c :: r)[i]) with
        | true =>
          refine .inl ⟨rfl,fun j hj hji=>?_⟩
          rcases Nat.lt_succ_iff_lt_or_eq.1 hji with h | rfl
          · exact hp j hj h
          · exact hg
        | false =>
          refine .inr ?_
          have:kV (c :: r)=false:=by
            rw [Bool.eq_false_iff]
            intro h
            simp only [kV,Bool.and_eq_true,decide_eq_true_eq] at h
            obtain ⟨⟨_,h1⟩,h2⟩:=h
            rw [List.all_eq_true] at h2
            cases i with
            | zero=>simp [h1] at hg
            | succ i =>
              simp at hg
              have:=h2 _ (List.getElem_mem (by simpa using hi:i<r.length))
              rw [this] at hg;cases hg
          rw [this];rfl
      · intro hp
        unfold Je
        rw [dh,show decide ((((c :: r).length:Nat):Int)<((c :: r).length:Int))=false by simp,qo]
        have:kV (c :: r)=true:=by
          simp only [kV,Bool.and_eq_true,decide_eq_true_eq]
          refine ⟨⟨hr,(by have h:=hp 0 (by simp) (by simp);rw [if_pos rfl] at h;exact h)⟩,?_⟩
          rw [List.all_eq_true]
          intro x hx
          obtain ⟨j,hj,rfl⟩:=List.getElem_of_mem hx
          have:=hp (j+1) (by simp;omega) (by simp;omega)
          simpa using this
        rw [this];rfl
theorem Hg {N:Nat} {s:Str} (hN:13≤N):oZ N s=some (kV s):=Jf hN
end Go.KB
