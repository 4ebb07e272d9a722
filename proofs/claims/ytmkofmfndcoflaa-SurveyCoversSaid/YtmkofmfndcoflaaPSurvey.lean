/- Plain laws of the survey package's small functions. No condition. -/
import Derived.Test.YtmkofmfndcoflaaPZa
import Derived.Test.YtmkofmfndcoflaaGPure
namespace Go.KB
set_option linter.unusedVariables false

theorem CV {N:Nat} {l:List Int} {φ:Int→Option Bool} {p:Int→Bool} (hφ:∀ x,φ x=some (p x)) (hl:l.length<9223372036854775807) (hN:l.length<N) :
    fJ N l φ=some (match l.findIdx? p with | some i=>(i:Int) | none=>-1):=by
  unfold fJ
  rw [rJ l.length (match l.findIdx? p with | some i=>.inr (i:Int) | none=>.inl ()) (fun i=>∀ j (h:j<l.length),j<i→p l[j]=false) ?_ ?_ (fun j _ h=>absurd h (Nat.not_lt_zero _)) N hN]
  · cases l.findIdx? p <;> rfl
  · intro i hi hp
    unfold dS
    simp only [dN,rH hi,hφ,bS,wS (show i<9223372036854775807 by omega)]
    rw [show decide ((i:Int)<(l.length:Int))=true by simp;omega,nZ]
    cases hpi:p l[i] with
    | true =>
      refine .inr ?_
      rw [List.findIdx?_eq_some_iff_getElem.2 ⟨hi,hpi,fun j hj=>by simp [hp j (by omega) hj]⟩]
      rfl
    | false =>
      refine .inl ⟨rfl,fun j hj hji=>?_⟩
      rcases Nat.lt_succ_iff_lt_or_eq.1 hji with h | rfl
      · exact hp j hj h
      · exact hpi
  · intro hp
    unfold dS
    rw [show ai .lss ((l.length:Nat):Int) (l.length:Int)=false by simp,qj]
    have:l.findIdx? p=none:=by
      rw [List.findIdx?_eq_none_iff]
      intro x hx
      obtain ⟨j,hj,rfl⟩:=List.getElem_of_mem hx
      exact hp j hj hj
    rw [this]

theorem BB {N:Nat} {lo hi:Int} {l:List Int} (hl:l.length<9223372036854775807) (hN:l.length<N):iD N lo hi l=some (l.all (CB lo hi)):=by
  unfold iD gy
  rw [CV (p:=fun n=>!CB lo hi n) (fun x=>by unfold jw CB;simp;rcases Int.lt_or_le x lo with h | h <;> rcases Int.lt_or_le hi x with h' | h' <;> simp [*] <;> omega) hl hN]
  simp only [bS,pz]
  congr 1
  cases hf:l.findIdx? (fun n=>!CB lo hi n) with
  | none =>
    rw [List.findIdx?_eq_none_iff] at hf
    simp only [show decide ((0:Int) ≤ -1)=false by decide,Bool.not_false]
    symm
    rw [List.all_eq_true]
    intro x hx
    have:=hf x hx
    simpa using this
  | some i =>
    rw [List.findIdx?_eq_some_iff_getElem] at hf
    obtain ⟨hi,hp,_⟩:=hf
    rw [show decide ((0:Int)≤(i:Int))=true by simp,Bool.not_true]
    symm
    rw [Bool.eq_false_iff,Ne,List.all_eq_true]
    intro h
    have:=h _ (List.getElem_mem hi)
    simp [this] at hp

theorem letter_eq {N:Nat} {c:UInt8}:kK N ((UInt8.toNat c:Nat):Int)=some (nU c):=rfl
theorem JY {N:Nat} {s:Str} (hN:13≤N):lW N s=some (kR s):=by
  unfold lW
  by_cases hlen:s.length<1∨12<s.length
  · have hc:(ai .lss (s.length:Int) 1||ai .gtr (s.length:Int) 12)=true:=by
      simp;omega
    rw [hc]
    simp only [Bool.not_true,qj,bS,Bool.true_or,nZ]
    congr 1
    unfold kR
    rcases hlen with h | h
    · have : s = [] := List.eq_nil_of_length_eq_zero (by omega)
      subst this;rfl
    · cases s with
      | nil=>rfl
      | cons c r=>simp at h;simp;intro h';omega
  · have hc:(ai .lss (s.length:Int) 1||ai .gtr (s.length:Int) 12)=false:=by
      rw [Bool.or_eq_false_iff];simp;omega
    rw [hc]
    have h0:0<s.length:=by omega
    have hi:=rH h0
    rw [show ((0:Nat):Int)=0 from rfl] at hi
    simp only [Bool.not_false,nZ,hi,bS,letter_eq,Bool.false_or]
    cases s with
    | nil=>simp at h0
    | cons c r =>
      simp only [List.getElem_cons_zero]
      have hr:r.length<12:=by simp at hlen;omega
      cases hL:nU c with
      | false=>simp [kR,hL]
      | true =>
        rw [Bool.not_true,qj]
        rw [rJ (c :: r).length (if (c :: r).all iQ then .inl () else .inr false) (fun i=>∀ j (h:j<(c :: r).length),j<i→iQ (c :: r)[j]=true) ?_ ?_ (fun j _ h=>absurd h (Nat.not_lt_zero _)) N (by simp;omega)]
        · simp only [kR,hr,hL,decide_true,Bool.true_and,List.all_cons,iQ,Bool.true_or]
          cases r.all iQ <;> rfl
        · intro i hi hp
          unfold jV
          simp only [rH hi,bS,letter_eq,wS (show i<9223372036854775807 by simp at hi;omega)]
          rw [show ai .lss (i:Int) ((c :: r).length:Int)=true by simp only [dN,decide_eq_true_eq];omega,nZ]
          have hneg:(((!nU (c :: r)[i])&&(ai .neq ((UInt8.toNat (c :: r)[i]:Nat):Int) 45))&&((ai .lss ((UInt8.toNat (c :: r)[i]:Nat):Int) 48)||(ai .gtr ((UInt8.toNat (c :: r)[i]:Nat):Int) 57))) = !iQ (c :: r)[i]:=by
            unfold iQ JZ
            simp only [jB,dN,qF,Bool.not_or,Bool.not_and]
            congr 1
            rw [← decide_not,← decide_not]
            simp only [Int.not_le]
          rw [hneg]
          cases hp2:iQ (c :: r)[i] with
          | true =>
            refine .inl ⟨rfl,fun j hj hji=>?_⟩
            rcases Nat.lt_succ_iff_lt_or_eq.1 hji with h | rfl
            · exact hp j hj h
            · exact hp2
          | false =>
            refine .inr ?_
            rw [if_neg]
            · rfl
            · rw [List.all_eq_true];intro h
              have:=h _ (List.getElem_mem hi)
              rw [hp2] at this;cases this
        · intro hp
          unfold jV
          rw [show ai .lss (((c :: r).length:Nat):Int) ((c :: r).length:Int)=false by simp,qj,if_pos]
          rw [List.all_eq_true]
          intro x hx
          obtain ⟨j,hj,rfl⟩:=List.getElem_of_mem hx
          exact hp j hj hj
end Go.KB
