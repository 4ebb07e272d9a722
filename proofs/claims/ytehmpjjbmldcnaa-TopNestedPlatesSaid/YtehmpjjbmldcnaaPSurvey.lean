/- Plain laws of the survey package's small functions. No condition. -/
import Derived.Test.YtehmpjjbmldcnaaPZa
import Derived.Test.YtehmpjjbmldcnaaGPure
namespace Go.KB
set_option linter.unusedVariables false

theorem GK {N:Nat} {l:List Int} {φ:Int→Option Bool} {p:Int→Bool} (hφ:∀ x,φ x=some (p x)) (hl:l.length<9223372036854775807) (hN:l.length<N) :
    kE N l φ=some (match l.findIdx? p with | some i=>(i:Int) | none=>-1):=by
  unfold kE
  rw [uS l.length (match l.findIdx? p with | some i=>.inr (i:Int) | none=>.inl ()) (fun i=>∀ j (h:j<l.length),j<i→p l[j]=false) ?_ ?_ (fun j _ h=>absurd h (Nat.not_lt_zero _)) N hN]
  · cases l.findIdx? p <;> rfl
  · intro i hi hp
    unfold jF
    simp only [aW,mO hi,hφ,bS,lY (show i<9223372036854775807 by omega)]
    rw [show decide ((i:Int)<(l.length:Int))=true by simp;omega,iP]
    cases hpi:p l[i] with
    | true =>
      refine .inr ?_
      rw [List.findIdx?_eq_some_iff_getElem.2 ⟨hi,hpi,fun j hj=>by simp [hp j (by omega) hj]⟩]
      rfl
    | false =>
      refine .inl ⟨rfl,fun j hj hji=>?_⟩
      rcases Nat.lt_succ_iff_lt_or_eq.1 hji with h | rfl
      · exact hp j hj h
      · exact hpi
  · intro hp
    unfold jF
    rw [show aB .lss ((l.length:Nat):Int) (l.length:Int)=false by simp,iT]
    have:l.findIdx? p=none:=by
      rw [List.findIdx?_eq_none_iff]
      intro x hx
      obtain ⟨j,hj,rfl⟩:=List.getElem_of_mem hx
      exact hp j hj hj
    rw [this]

theorem Bz {N:Nat} {lo hi:Int} {l:List Int} (hl:l.length<9223372036854775807) (hN:l.length<N):kN N lo hi l=some (l.all (PD lo hi)):=by
  unfold kN iH
  rw [GK (p:=fun n=>!PD lo hi n) (fun x=>by unfold qM PD;simp;rcases Int.lt_or_le x lo with h | h <;> rcases Int.lt_or_le hi x with h' | h' <;> simp [*] <;> omega) hl hN]
  simp only [bS,jD]
  congr 1
  cases hf:l.findIdx? (fun n=>!PD lo hi n) with
  | none =>
    rw [List.findIdx?_eq_none_iff] at hf
    simp only [show decide ((0:Int) ≤ -1)=false by decide,Bool.not_false]
    symm
    rw [List.all_eq_true]
    intro x hx
    have:=hf x hx
    simpa using this
  | some i =>
    rw [List.findIdx?_eq_some_iff_getElem] at hf
    obtain ⟨hi,hp,_⟩:=hf
    rw [show decide ((0:Int)≤(i:Int))=true by simp,Bool.not_true]
    symm
    rw [Bool.eq_false_iff,Ne,List.all_eq_true]
    intro h
    have:=h _ (List.getElem_mem hi)
    simp [this] at hp

theorem letter_eq {N:Nat} {c:UInt8}:uf N ((UInt8.toNat c:Nat):Int)=some (xA c):=rfl
theorem Xl {N:Nat} {s:Str} (hN:13≤N):vV N s=some (vH s):=by
  unfold vV
  by_cases hlen:s.length<1∨12<s.length
  · have hc:(aB .lss (s.length:Int) 1||aB .gtr (s.length:Int) 12)=true:=by
      simp;omega
    rw [hc]
    simp only [Bool.not_true,iT,bS,Bool.true_or,iP]
    congr 1
    unfold vH
    rcases hlen with h | h
    · have : s = [] := List.eq_nil_of_length_eq_zero (by omega)
      subst this;rfl
    · cases s with
      | nil=>rfl
      | cons c r=>simp at h;simp;intro h';omega
  · have hc:(aB .lss (s.length:Int) 1||aB .gtr (s.length:Int) 12)=false:=by
      rw [Bool.or_eq_false_iff];simp;omega
    rw [hc]
    have h0:0<s.length:=by omega
    have hi:=mO h0
    rw [show ((0:Nat):Int)=0 from rfl] at hi
    simp only [Bool.not_false,iP,hi,bS,letter_eq,Bool.false_or]
    cases s with
    | nil=>simp at h0
    | cons c r =>
      simp only [List.getElem_cons_zero]
      have hr:r.length<12:=by simp at hlen;omega
      cases hL:xA c with
      | false=>simp [vH,hL]
      | true =>
        rw [Bool.not_true,iT]
        rw [uS (c :: r).length (if (c :: r).all oV then .inl () else .inr false) (fun i=>∀ j (h:j<(c :: r).length),j<i→oV (c :: r)[j]=true) ?_ ?_ (fun j _ h=>absurd h (Nat.not_lt_zero _)) N (by simp;omega)]
        · simp only [vH,hr,hL,decide_true,Bool.true_and,List.all_cons,oV,Bool.true_or]
          cases r.all oV <;> rfl
        · intro i hi hp
          unfold rO
          simp only [mO hi,bS,letter_eq,lY (show i<9223372036854775807 by simp at hi;omega)]
          rw [show aB .lss (i:Int) ((c :: r).length:Int)=true by simp only [aW,decide_eq_true_eq];omega,iP]
          have hneg:(((!xA (c :: r)[i])&&(aB .neq ((UInt8.toNat (c :: r)[i]:Nat):Int) 45))&&((aB .lss ((UInt8.toNat (c :: r)[i]:Nat):Int) 48)||(aB .gtr ((UInt8.toNat (c :: r)[i]:Nat):Int) 57))) = !oV (c :: r)[i]:=by
            unfold oV Xu
            simp only [lV,aW,fE,Bool.not_or,Bool.not_and]
            congr 1
            rw [← decide_not,← decide_not]
            simp only [Int.not_le]
          rw [hneg]
          cases hp2:oV (c :: r)[i] with
          | true =>
            refine .inl ⟨rfl,fun j hj hji=>?_⟩
            rcases Nat.lt_succ_iff_lt_or_eq.1 hji with h | rfl
            · exact hp j hj h
            · exact hp2
          | false =>
            refine .inr ?_
            rw [if_neg]
            · rfl
            · rw [List.all_eq_true];intro h
              have:=h _ (List.getElem_mem hi)
              rw [hp2] at this;cases this
        · intro hp
          unfold rO
          rw [show aB .lss (((c :: r).length:Nat):Int) ((c :: r).length:Int)=false by simp,iT,if_pos]
          rw [List.all_eq_true]
          intro x hx
          obtain ⟨j,hj,rfl⟩:=List.getElem_of_mem hx
          exact hp j hj hj
end Go.KB
