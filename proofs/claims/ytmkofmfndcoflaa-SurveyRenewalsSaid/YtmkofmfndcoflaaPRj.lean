/- Both programs join the same pair. No condition. -/
import Derived.Test.YtmkofmfndcoflaaPRm
namespace Go.KB
set_option linter.unusedVariables false
theorem FB {N:Nat} {l:List ak} {i:Nat} (hi:i<l.length) (hl:l.length<1000000):dN N l (i:Int) ((i+1:Nat):Int)=some (l.take i ++ l.drop (i+1)):=by
  unfold dN
  have e1:Gz (i:Int) ((i+1:Nat):Int) (l.length:Int) (l.length:Int)=some ():=by
    unfold Gz
    rw [dT (by omega),dT (by omega),dT (by omega),dT (by omega)];rfl
  have e2:∀ a b:Int,0≤a→a≤b→b≤l.length→∃ z,zV l a b=some z:=fun a b h0 h1 h2=>by
    unfold zV
    rw [dT h0,dT h1,dT h2];exact ⟨_,rfl⟩
  obtain ⟨z1,hz1⟩:=e2 0 (i:Int) (by omega) (by omega) (by omega)
  obtain ⟨z2,hz2⟩:=e2 ((i+1:Nat):Int) (l.length:Int) (by omega) (by omega) (by omega)
  have e3:GK l (Int.toNat 0) (Int.toNat (i:Int) - Int.toNat 0) (Int.toNat ((i+1:Nat):Int)) (Int.toNat (l.length:Int) - Int.toNat ((i+1:Nat):Int))=some (l.take i ++ l.drop (i+1)):=by
    have h1:(Nat.beq (Int.toNat 0) 0&&Nat.ble (Int.toNat (i:Int) - Int.toNat 0) (Int.toNat ((i+1:Nat):Int))&&Nat.beq (Int.toNat ((i+1:Nat):Int)+(Int.toNat (l.length:Int) - Int.toNat ((i+1:Nat):Int))) l.length)=true:=by
      simp only [Bool.and_eq_true,Nat.beq_eq,Nat.ble_eq]
      refine ⟨⟨rfl,?_⟩,?_⟩
      · simp
      · simp only [Int.toNat_natCast]
        exact Nat.add_sub_cancel' (by omega)
    unfold GK
    rw [h1];simp
  have hlen:(l.take i ++ l.drop (i+1)).length≤l.length:=by simp;omega
  rw [e1,bS,rY,dF (by omega),qo,hz1,bS,hz2,bS,e3,bS]
  generalize l.take i ++ l.drop (i+1)=v at hlen
  have h5:(Nat.beq (Int.toNat (v.length:Int)) v.length&&Nat.ble (Int.toNat (v.length:Int)) (Int.toNat (l.length:Int))&&Nat.ble (Int.toNat (l.length:Int)) l.length&&decide (0≤(v.length:Int))&&decide (0≤(l.length:Int)))=true:=by
    simp only [Bool.and_eq_true,Nat.beq_eq,Nat.ble_eq,decide_eq_true_eq,Int.toNat_natCast]
    exact ⟨⟨⟨⟨trivial,hlen⟩,Nat.le_refl _⟩,by omega⟩,by omega⟩
  rw [h5];rfl
def kW (l:List ak) (i j:Nat):List ak:=(l.set i (Ep l[i]! l[j]!)).take j ++ (l.set i (Ep l[i]! l[j]!)).drop (j+1)
def others (l:List ak) (i j:Nat):List ak:=((List.range l.length).filter fun k=>!decide (k=i) && !decide (k=j)).map fun k=>l[k]!
def qG (l:List ak) (i j:Nat):List ak:=vV ((others l i j).foldl vV []) (Ep l[i]! l[j]!)
theorem Bl {α:Type} [Inhabited α] (l:List α):(List.range l.length).map (fun k=>l[k]!)=l:=by
  refine List.ext_getElem (by simp) fun i h1 h2=>?_
  rw [List.getElem_map,List.getElem_range,xK h2]
theorem Ce {l:List ak} {i j:Nat} (hij:i<j) (hj:j<l.length):(kW l i j).Perm (others l i j ++ [Ep l[i]! l[j]!]):=by
  have h1:∀ z,((l.set i z).take j ++ (l.set i z).drop (j+1)).Perm (((List.range l.length).filter fun k=>!decide (k=i) && !decide (k=j)).map (fun k=>l[k]!) ++ [z]):=by
    intro z
    have hs:∀ k,k<l.length→(l.set i z)[k]! = if k=i then z else l[k]!:=fun k hk=>by
      rw [xK (by rw [List.length_set];exact hk),List.getElem_set]
      by_cases h:i=k
      · rw [if_pos h,if_pos h.symm]
      · rw [if_neg h,if_neg (fun q=>h q.symm),xK hk]
    have e:(l.set i z).take j ++ (l.set i z).drop (j+1)=((List.range l.length).filter fun k=>!decide (k=j)).map fun k=>(l.set i z)[k]!:=by
      have e1:=Bl (l.set i z)
      rw [List.length_set] at e1
      have e2:List.range l.length=List.range j ++ (j :: (List.range (l.length - (j+1))).map fun k=>j+1+k):=by
        have:l.length=j+(1+(l.length - (j+1))):=by omega
        conv=>lhs;rw [this]
        rw [List.range_add,List.range_add]
        simp [Nat.add_assoc]
      rw [e2,List.filter_append,List.filter_cons,show (!decide (j=j))=false by simp,if_neg (by decide),List.filter_eq_self.2 (fun k hk=>by have:=List.mem_range.1 hk;simp;omega),List.filter_eq_self.2 (fun k hk=>by obtain ⟨m,_,rfl⟩:=List.mem_map.1 hk;simp;omega),List.map_append]
      rw [e2] at e1
      rw [List.map_append,List.map_cons] at e1
      have hl1:((List.range j).map fun k=>(l.set i z)[k]!).length=j:=by simp
      conv=>lhs;rw [← e1]
      rw [List.take_append_of_le_length (by omega),List.take_of_length_le (by omega),List.drop_append,List.drop_of_length_le (by omega),List.nil_append,hl1,show j+1 - j=1 by omega]
      rfl
    rw [e]
    have e3:((List.range l.length).filter fun k=>!decide (k=j)).Perm (((List.range l.length).filter fun k=>!decide (k=i) && !decide (k=j)) ++ [i]):=by
      refine (List.perm_ext_iff_of_nodup (List.nodup_range.filter _) (List.nodup_append.2 ⟨List.nodup_range.filter _,by simp,fun a ha b hb hab=>?_⟩)).2 fun a=>?_
      · rw [List.mem_singleton] at hb
        subst hb;subst hab
        have:=(List.mem_filter.1 ha).2
        simp at this
      · rw [List.mem_append,List.mem_filter,List.mem_filter,List.mem_singleton,List.mem_range]
        simp only [Bool.and_eq_true,Bool.not_eq_true',decide_eq_false_iff_not]
        constructor
        · rintro ⟨q1,q2⟩
          by_cases h:a=i
          · exact .inr h
          · exact .inl ⟨q1,h,q2⟩
        · rintro (⟨q1,q2,q3⟩ | q)
          · exact ⟨q1,q3⟩
          · subst q;exact ⟨by omega,by omega⟩
    have e4:=e3.map fun k=>(l.set i z)[k]!
    refine e4.trans ?_
    rw [List.map_append,List.map_singleton,hs i (by omega),if_pos rfl]
    have e5:(((List.range l.length).filter fun k=>!decide (k=i) && !decide (k=j)).map fun k=>(l.set i z)[k]!)=((List.range l.length).filter fun k=>!decide (k=i) && !decide (k=j)).map fun k=>l[k]!:=by
      refine List.map_congr_left fun k hk=>?_
      obtain ⟨q1,q2⟩:=List.mem_filter.1 hk
      simp only [Bool.and_eq_true,Bool.not_eq_true',decide_eq_false_iff_not] at q2
      rw [hs k (List.mem_range.1 q1),if_neg q2.1]
    rw [e5]
  exact h1 _
theorem FC {l:List ak} {i j:Nat} (hij:i<j) (hj:j<l.length):qG l i j=kZ (kW l i j):=by
  unfold qG
  have:(others l i j).foldl vV []=kZ (others l i j):=by
    have:=FD (others l i j) []
    rw [List.nil_append] at this
    exact this
  rw [this,zu]
  exact (zK (Ce hij hj)).symm
/- the first pair -/
def lg (l:List ak) (G:Nat→Nat→List ak):Option (List ak×Bool):=(List.range' 0 (l.length - 0)).findSome? fun i=>(List.range' (i+1) (l.length - (i+1))).findSome? fun j=>bif mO l[i]! l[j]! then some (G i j,true) else none
section
variable {N:Nat} {C R:Int} (hC:C≤1000) (hR:R≤1000) (hN:1000000≤N) {l:List ak} (hl:l.length<100000) (hb:∀ r ∈ l,Dy C R r)
include hC hR hN hl hb in
theorem Cf:kN N l=some (match lg l (kW l) with | some o=>o | none=>(l,false)):=by
  have hbi:∀ i,i<l.length→Dy C R l[i]!:=fun i hi=>hb _ (by rw [xK hi];exact List.getElem_mem _)
  unfold kN
  have key:=pI (n:=l.length) (f:=gK N l) (fun i=>(l,(i:Int))) (fun i=>(List.range' (i+1) (l.length - (i+1))).findSome? fun j=>bif mO l[i]! l[j]! then some (kW l i j,true) else none) l 0 N (by omega) (by omega) (fun i _ hi=>?_) ?_
  · have key:bD (gK N l) N (l,0)=_:=key
    rw [key,bS]
    unfold lg
    cases (List.range' 0 (l.length - 0)).findSome? (fun i=>(List.range' (i+1) (l.length - (i+1))).findSome? fun j=>bif mO l[i]! l[j]! then some (kW l i j,true) else none) with
    | some o=>rfl
    | none=>rfl
  · have inner := pI (n := l.length) (f := iI N (l, (i : Int))) (fun j => (l, (j : Int))) (fun j => bif mO l[i]! l[j]! then some (kW l i j, true) else none) l (i + 1) N (by omega) (by omega) (fun j h1 h2 => ?_) ?_
    · unfold gK
      simp only []
      rw [dh,dT (by omega),oC,uH (by omega),inner,bS]
      cases (List.range' (i+1) (l.length - (i+1))).findSome? fun j=>bif mO l[i]! l[j]! then some (kW l i j,true) else none with
      | some o=>rfl
      | none=>rfl
    · unfold iI
      simp only []
      rw [dh,dT (by omega),oC,xJ hi,bS,xJ h2,bS,Gp hC hR (hbi i hi) (hbi j h2),bS]
      cases mO l[i]! l[j]! with
      | false=>simp only [qo];rw [uH (by omega)]
      | true =>
        simp only [oC]
        rw [bS,bS,zy hC hR (hbi i hi) (hbi j h2),bS,bS,Int.toNat_natCast,uH (by omega),FB (by rw [List.length_set];exact h2) (by rw [List.length_set];omega),bS];rfl
    · unfold iI
      simp only []
      rw [dh,dF (by omega),qo]
  · unfold gK
    simp only []
    rw [dh,dF (by omega),qo]
include hC hR hN hl hb in
theorem Bh:lu N l=some (match lg l (qG l) with | some o=>o | none=>(l,false)):=by
  have hbi:∀ i,i<l.length→Dy C R l[i]!:=fun i hi=>hb _ (by rw [xK hi];exact List.getElem_mem _)
  have JX:∀ (ms:List ak) (a:List ak),(ms.foldl vV a).length=a.length+ms.length:=by
    intro ms
    induction ms with
    | nil=>intro a;rfl
    | cons m ms ih =>
      intro a
      have:=(Ej a m).length_eq
      rw [List.foldl_cons,ih,this,List.length_append,List.length_cons,List.length_cons,List.length_nil];omega
  unfold lu
  have key:=pI (n:=l.length) (f:=gZ N l) (fun i=>(i:Int)) (fun i=>(List.range' (i+1) (l.length - (i+1))).findSome? fun j=>bif mO l[i]! l[j]! then some (qG l i j,true) else none) () 0 N (by omega) (by omega) (fun i _ hi=>?_) ?_
  · have key:bD (gZ N l) N 0=_:=key
    rw [key,bS]
    unfold lg
    cases (List.range' 0 (l.length - 0)).findSome? (fun i=>(List.range' (i+1) (l.length - (i+1))).findSome? fun j=>bif mO l[i]! l[j]! then some (qG l i j,true) else none) with
    | some o=>rfl
    | none=>rfl
  · have inner := pI (n := l.length) (f := iP N l (i : Int)) (fun j => (j : Int)) (fun j => bif mO l[i]! l[j]! then some (qG l i j, true) else none) () (i + 1) N (by omega) (by omega) (fun j h1 h2 => ?_) ?_
    · unfold gZ
      rw [dh,dT (by omega),oC,uH (by omega),inner,bS]
      cases (List.range' (i+1) (l.length - (i+1))).findSome? fun j=>bif mO l[i]! l[j]! then some (qG l i j,true) else none with
      | some o=>rfl
      | none=>rfl
    · have hot:bD (ig N l (i:Int) (j:Int)) N ([],0)=some ((others l i j).foldl vV []):=by
        have hfl:∀ (ks:List Nat) (a:List ak),ks.foldl (fun a k=>bif !decide (k=i) && !decide (k=j) then vV a l[k]! else a) a=((ks.filter fun k=>!decide (k=i) && !decide (k=j)).map fun k=>l[k]!).foldl vV a:=by
          intro ks
          induction ks with
          | nil=>intro a;rfl
          | cons k ks ih =>
            intro a
            rw [List.foldl_cons,List.filter_cons,ih]
            cases (!decide (k=i) && !decide (k=j)) <;> rfl
        have:=rD (N:=N) (f:=ig N l (i:Int) (j:Int)) (List.range l.length) ([]:List ak) (fun a k=>bif !decide (k=i) && !decide (k=j) then vV a l[k]! else a) (fun t k=>(t,k)) (fun t=>t) (fun k hk t ht=>?_) (fun t=>?_) (by rw [List.length_range];omega)
        · rw [hfl] at this;exact this
        · rw [List.length_range] at hk
          rw [List.getElem_range]
          have htl:t.length≤l.length:=by
            rw [ht,hfl,JX,List.length_map,List.length_nil]
            have:=List.length_filter_le (fun k=>!decide (k=i) && !decide (k=j)) ((List.range l.length).take k)
            rw [List.length_take,List.length_range] at this
            omega
          unfold ig
          simp only []
          rw [dh,dT (by omega),oC,jw,jw,uH (by omega),show decide ((k:Int)=(i:Int))=decide (k=i) from decide_eq_decide.2 (by omega),show decide ((k:Int)=(j:Int))=decide (k=j) from decide_eq_decide.2 (by omega)]
          cases (!decide (k=i) && !decide (k=j)) with
          | true=>simp only [oC];rw [xJ hk,bS,put_eq (by omega) hN,bS]
          | false=>rfl
        · unfold ig
          simp only [List.length_range]
          rw [dh,dF (by omega),qo]
      have hol:((others l i j).foldl vV []).length≤l.length:=by
        rw [JX]
        unfold others
        rw [List.length_map,List.length_nil]
        have:=List.length_filter_le (fun k=>!decide (k=i) && !decide (k=j)) (List.range l.length)
        rw [List.length_range] at this
        omega
      unfold iP
      rw [dh,dT (by omega),oC,xJ hi,bS,xJ h2,bS,Em hC hR (hbi i hi) (hbi j h2),bS]
      cases mO l[i]! l[j]! with
      | false=>simp only [Bool.not_false,oC,qo];rw [uH (by omega)]
      | true =>
        simp only [Bool.not_true,oC,qo]
        rw [hot,bS,bS,bS,FH hC hR (hbi i hi) (hbi j h2),bS,put_eq (by omega) hN,bS];rfl
    · unfold iP
      rw [dh,dF (by omega),qo]
  · unfold gZ
    rw [dh,dF (by omega),qo]
end
theorem Fj {l:List ak}:lg l (qG l)=(lg l (kW l)).map fun o=>(kZ o.1,o.2):=by
  unfold lg
  refine uJ fun i hi=>uJ fun j hj=>?_
  have hi:i<l.length:=by have:=List.mem_range'.1 hi;omega
  obtain ⟨q,hq,rfl⟩:=List.mem_range'.1 hj
  cases mO l[i]! l[i+1+1 * q]! with
  | false=>rfl
  | true=>simp only [oC,Option.map_some];rw [FC (by omega) (by omega)]
theorem Eh {l:List ak} {G:Nat→Nat→List ak} {o:List ak×Bool} (h:lg l G=some o):∃ i j,i<j∧j<l.length∧mO l[i]! l[j]! = true∧o=(G i j,true):=by
  unfold lg at h
  obtain ⟨i,hi,h⟩:=List.exists_of_findSome?_eq_some h
  obtain ⟨j,hj,h⟩:=List.exists_of_findSome?_eq_some h
  have hi:i<l.length:=by have:=List.mem_range'.1 hi;omega
  obtain ⟨q,hq,rfl⟩:=List.mem_range'.1 hj
  cases hm:mO l[i]! l[i+1+1 * q]! with
  | false=>rw [hm] at h;cases h
  | true=>rw [hm] at h;exact ⟨i,_,by omega,by omega,hm,(Option.some.inj h).symm⟩
theorem Eg {l:List ak} {G:Nat→Nat→List ak} (h:lg l G=none) {i j:Nat} (hij:i<j) (hj:j<l.length):mO l[i]! l[j]! = false:=by
  unfold lg at h
  have h1:=List.findSome?_eq_none_iff.1 h i (List.mem_range'.2 ⟨i,by omega,by omega⟩)
  have h2:=List.findSome?_eq_none_iff.1 h1 j (List.mem_range'.2 ⟨j - (i+1),by omega,by omega⟩)
  cases hm:mO l[i]! l[j]! with
  | false=>rfl
  | true=>rw [hm] at h2;cases h2
end Go.KB
